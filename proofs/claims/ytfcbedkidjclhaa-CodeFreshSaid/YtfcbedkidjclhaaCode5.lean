/-
  The contracts of package code's put and opcode.
  Conditions: put's row is owned, its length far below 2^47.
-/
import Derived.Test.YtfcbedkidjclhaaCode4
import Derived.Test.YtfcbedkidjclhaaPack1
namespace Go.Proofs.Ytfcbedkidjclhaa
open Go.RowKit
set_option maxRecDepth 100000
set_option linter.unusedSimpArgs false
set_option linter.unusedVariables false

set_option maxHeartbeats 400000 in
theorem cput_any (A : Option Addr) (n c s : Nat) (s' v : Int) (xs : List UInt8) (base : Nat) (w : World) (h : w.ownsRow base 5 1 (.slice A n c) n (bv xs)) (hb : base ≤ w.heap.size) (hn : n ≤ 140737488000000) (hs : s ≤ 8) (es : s' = (s : Int)) :
    Calls Try.prog 95 #[.slice A n c, .int .i64 v, .int .i64 s'] w fun e w' => ∃ A' c', e = .returned (.slice A' (n + s) c') ∧ w'.ownsRow base 5 1 (.slice A' (n + s) c') (n + s) (bv (xs ++ Pk.low s v)) ∧ App w w' (.slice A n c) (.slice A' (n + s) c') := by
  subst es
  obtain ⟨i0, hi0, hz0, hz1, hz2⟩ := info_parts info5
  go_enter Try.func95, Try.ntmps95
  go_wp2
  go_loopw [0, 1, 8] (fun b u i wr => ∃ (k : Nat) (v' : Int) (A' : Option Addr) (c' : Nat) (don : List UInt8), k ≤ s ∧ i = .int .i64 k ∧ u = .int .i64 v' ∧ b = .slice A' (n + k) c' ∧
      Hid (Pk.low s v = don ++ Pk.low (s - k) v') ∧ wr.ownsRow base 5 1 (.slice A' (n + k) c') (n + k) (bv (xs ++ don)) ∧ App w wr (.slice A n c) (.slice A' (n + k) c'))
    (fun _ _ i _ => s - (intOf i).toNat)
  case atStart => exact ⟨0, v, A, c, [], by omega, rfl, rfl, rfl, hd (by simp), by simpa using h, App.refl _ _⟩
  case round =>
    obtain ⟨k, v', A', c', don, hk, rfl, rfl, rfl, hlow, hown, happ⟩ := hrel
    by_cases hlt : k < s
    · have hsz := happ.size
      go_wp2_with (at_builtin; refine wpList_app _ rfl _ _ 22 rfl base 5 i0 _ 1 1 Try.underlying22 hi0 hz0 hz1 hz2 rfl (by omega) (.slice A' (n + k) c') (n + k) (bv (xs ++ don)) rfl (hown.alloc _) (some ⟨wr.heap.size, 0, none⟩) 1 1 [.int .u8 (v' % 256)] rfl (Rd.one _ _ _) (oneCell_one _ _) (by omega) (by omega) (by simp; omega) ?_; intro v1 w1 hown1 hg1 hat1; have hX := (happ.then_ext (Ext.new wr _)).trans (App.of_law hg1 hat1); obtain ⟨A2, c2, rfl, _⟩ := own_form hown1; clear hg1 hat1 happ hown)
      rw [bv_snoc] at hown1
      go_roundw
      case rel => exact ⟨k + 1, v' / 256, A2, c2, don ++ [Pk.byte v'], by omega, by go_num, rfl, rfl, hd (Pk.low_step hlt hlow.out), by rw [← List.append_assoc]; exact hown1, hX⟩
      case measure => simp [intOf]; omega
    · have hks : k = s := by omega
      subst hks
      have hl := hlow.out
      simp only [Nat.sub_self, Pk.low, List.append_nil] at hl
      have Hl := hd hl
      clear hl
      go_wp2
      go_ret
      exact ⟨A', c', rfl, by rw [Hl.out]; exact hown, happ⟩

theorem digit_in : ∀ (l : List Int) (i op : Int), 0 ≤ i → i + l.length ≤ 16 → -1 ≤ Cd.digitFrom i l op ∧ Cd.digitFrom i l op ≤ 15
  | [], i, op, h0, h1 => by simp [Cd.digitFrom]
  | x :: l, i, op, h0, h1 => by
    simp only [List.length_cons] at h1
    rw [Cd.digitFrom]
    split
    · omega
    · exact digit_in l (i + 1) op (by omega) (by omega)

theorem or_alu (D a r : Int) (h1 : -1 ≤ D) (h2 : D ≤ 15) (ha : a = 4 ∨ a = 5 ∨ a = 6 ∨ a = 7) (hr : r = 0 ∨ r = 8) : bits .or .i64 (bits .or .i64 (IntKind.i64.wrap (D * 16)) a) r = D * 16 + a + r := by
  rcases (by omega : D = -1 ∨ D = 0 ∨ D = 1 ∨ D = 2 ∨ D = 3 ∨ D = 4 ∨ D = 5 ∨ D = 6 ∨ D = 7 ∨ D = 8 ∨ D = 9 ∨ D = 10 ∨ D = 11 ∨ D = 12 ∨ D = 13 ∨ D = 14 ∨ D = 15) with rfl | rfl | rfl | rfl | rfl | rfl | rfl | rfl | rfl | rfl | rfl | rfl | rfl | rfl | rfl | rfl | rfl <;> rcases ha with rfl | rfl | rfl | rfl <;> rcases hr with rfl | rfl <;> decide
theorem or_alu' (D a r : Int) (h1 : -1 ≤ D) (h2 : D ≤ 15) (ha : a = 4 ∨ a = 5 ∨ a = 6 ∨ a = 7) (hr : r = 0 ∨ r = 8) : bits .or .i64 (bits .or .i64 (wrap64 (D * 16)) a) r = D * 16 + a + r := by
  have h := or_alu D a r h1 h2 ha hr
  rwa [show IntKind.i64.wrap (D * 16) = wrap64 (D * 16) by rw [IntKind.wrap_i64, wrap64]] at h
theorem or_mem (m s k : Int) (hm : m = 96 ∨ m = 128 ∨ m = 192) (hs : s = 0 ∨ s = 8 ∨ s = 16 ∨ s = 24) (hk : k = 1 ∨ k = 2 ∨ k = 3) : bits .or .i64 (bits .or .i64 m s) k = m + s + k := by
  rcases hm with rfl | rfl | rfl <;> rcases hs with rfl | rfl | rfl | rfl <;> rcases hk with rfl | rfl | rfl <;> decide
theorem size_in (sz : Int) : Cd.sizeBits sz = 0 ∨ Cd.sizeBits sz = 8 ∨ Cd.sizeBits sz = 16 ∨ Cd.sizeBits sz = 24 := by
  unfold Cd.sizeBits
  repeat' split
  all_goals simp
theorem alu_in (op : Int) : -1 ≤ Cd.digitOf Cd.aluOps op ∧ Cd.digitOf Cd.aluOps op ≤ 15 := digit_in _ 0 op (by omega) (by decide)
theorem jmp_in (op : Int) : -1 ≤ Cd.digitOf Cd.jumpOps op ∧ Cd.digitOf Cd.jumpOps op ≤ 15 := digit_in _ 0 op (by omega) (by decide)
theorem ret_four_int {a b c d a' b' c' d' : Int} (h1 : a = a') (h2 : b = b') (h3 : c = c') (h4 : d = d') : Ending.returned (.tuple #[.int .i64 a, .int .i64 b, .int .i64 c, .int .i64 d]) = .returned (.tuple #[.int .i64 a', .int .i64 b', .int .i64 c', .int .i64 d']) := by rw [h1, h2, h3, h4]

set_option maxHeartbeats 8000000 in
theorem opcode_any (op : Int) (nr rg : Bool) (sz ds sr of im : Int) (w : World) : Calls Try.prog 94 #[.agg #[.int .i64 op, .bool nr, .bool rg, .int .i64 sz, .int .i64 ds, .int .i64 sr, .int .i64 of, .int .i64 im]] w fun e w' =>
    e = .returned (.tuple #[.int .i64 (Cd.opcode ⟨op, nr, rg, sz, ds, sr, of, im⟩).1, .int .i64 (Cd.opcode ⟨op, nr, rg, sz, ds, sr, of, im⟩).2.1, .int .i64 (Cd.opcode ⟨op, nr, rg, sz, ds, sr, of, im⟩).2.2.1, .int .i64 (Cd.opcode ⟨op, nr, rg, sz, ds, sr, of, im⟩).2.2.2]) ∧ Ext w w' := by
  go_enter Try.func94, Try.ntmps94
  go_upto_region 1 with (fail)
  refine wp_box64 ?_
  intro W hX hP
  obtain ⟨p0, p1, p2, p3, p4, p5, p6, p7⟩ := hP.c8
  go_quiet (fail)
  go_upto_region 8 with (fail)
  all_goals go_wp2_with (first | (go_at_call 134; (with_reducible refine (alu_any _).mono ?_); rintro e w1 ⟨rfl, hX1⟩) | (go_at_call 136; (with_reducible refine (jmp_any _).mono ?_); rintro e w1 ⟨rfl, hX1⟩) | (go_at_call 133; (with_reducible refine (digit_alu _ _).mono ?_); rintro e w2 ⟨rfl, hX2⟩) | (go_at_call 133; (with_reducible refine (digit_jmp _ _).mono ?_); rintro e w2 ⟨rfl, hX2⟩) | (go_at_call 135; (with_reducible refine (sizeBits_any _ _).mono ?_); rintro e w2 ⟨rfl, hX2⟩))
  all_goals first
    | (go_quiet (fail); go_wp2)
    | (go_region_held3 (fun w' => w'.cell? ⟨w.heap.size, 0, none⟩ = some (.int .i64 op) ∧ w'.cell? ⟨w.heap.size, 3, none⟩ = some (.int .i64 sz)) (first | exact ⟨p0, p3⟩ | go_keep | exact ⟨hX1.cell p0, hX1.cell p3⟩ | exact ⟨hX2.cell (hX1.cell p0), hX2.cell (hX1.cell p3)⟩) (first | (go_at_call 134; (with_reducible refine (alu_any _).mono ?_); rintro e w1 ⟨rfl, hX1⟩) | (go_at_call 136; (with_reducible refine (jmp_any _).mono ?_); rintro e w1 ⟨rfl, hX1⟩) | (go_at_call 133; (with_reducible refine (digit_alu _ _).mono ?_); rintro e w2 ⟨rfl, hX2⟩) | (go_at_call 133; (with_reducible refine (digit_jmp _ _).mono ?_); rintro e w2 ⟨rfl, hX2⟩) | (go_at_call 135; (with_reducible refine (sizeBits_any _ _).mono ?_); rintro e w2 ⟨rfl, hX2⟩)); go_wp2)
    | skip
  all_goals ((try simp only [Exit.inBlock, Exit.then]); refine bodyPost_ret (results_tmp4 rfl _ _ _) rfl ?_)
  all_goals refine ⟨ret_four_int ?_ ?_ ?_ ?_, ?_⟩
  all_goals first
    | exact ((hX.drewN _).trans hX1).trans hX2
    | exact ((hX.drewN _).drew.trans hX1).trans hX2
    | exact (hX.drewN _).trans hX2
    | exact (hX.drewN _).drewN _
    | exact hX.drewN _
    | grind [Cd.opcode]
    | (rw [or_alu _ _ _ (alu_in _).1 (alu_in _).2 (by simp) (by simp)]; grind [Cd.opcode])
    | (rw [or_alu' _ _ _ (alu_in _).1 (alu_in _).2 (by simp) (by simp)]; grind [Cd.opcode])
    | (rw [or_alu _ _ _ (jmp_in _).1 (jmp_in _).2 (by simp) (by simp)]; grind [Cd.opcode])
    | (rw [or_alu' _ _ _ (jmp_in _).1 (jmp_in _).2 (by simp) (by simp)]; grind [Cd.opcode])
    | (rw [or_mem _ _ _ (by simp) (size_in _) (by simp)]; grind [Cd.opcode])

end Go.Proofs.Ytfcbedkidjclhaa
