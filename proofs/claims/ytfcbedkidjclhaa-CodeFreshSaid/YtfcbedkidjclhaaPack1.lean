/-
  The contracts of package pack's small functions: put, section, sum, get: what each computes, as Pk says it in plain mathematics.
  Conditions: the slices that come in read as lists; lengths far below 2^47 bytes.
-/
import Derived.Test.YtfcbedkidjclhaaCopy
import Derived.Test.YtfcbedkidjclhaaPackM
namespace Go.Proofs.Ytfcbedkidjclhaa
open Go.RowKit
set_option maxRecDepth 100000
set_option linter.unusedSimpArgs false
set_option linter.unusedVariables false
theorem bv_snoc (l : List UInt8) (v : Int) : bv l ++ [Value.int IntKind.u8 (v % 256)] = bv (l ++ [Pk.byte v]) := by
  rw [bv_append]
  congr 1
  simp only [bv, List.map_cons, List.map_nil, Pk.byte_toNat]
theorem oneCell_one (k : IntKind) (x : Int) : ∀ u ∈ [Value.int k x], u.oneCell' = true := by
  intro u hu
  simp at hu
  subst hu
  rfl

set_option maxHeartbeats 400000 in
theorem put_any (A : Option Addr) (n c s : Nat) (s' v : Int) (xs : List UInt8) (base : Nat) (w : World) (h : w.ownsRow base 5 1 (.slice A n c) n (bv xs)) (hb : base ≤ w.heap.size) (hn : n ≤ 140737488000000) (hs : s ≤ 8) (es : s' = (s : Int)) :
    Calls Try.prog 72 #[.slice A n c, .int .i64 s', .int .i64 v] w fun e w' => ∃ A' c', e = .returned (.slice A' (n + s) c') ∧ w'.ownsRow base 5 1 (.slice A' (n + s) c') (n + s) (bv (xs ++ Pk.low s v)) ∧ App w w' (.slice A n c) (.slice A' (n + s) c') := by
  subst es
  obtain ⟨i0, hi0, hz0, hz1, hz2⟩ := info_parts info5
  go_enter Try.func72, Try.ntmps72
  go_wp2
  go_loopw [0, 2, 8] (fun b u i wr => ∃ (k : Nat) (v' : Int) (A' : Option Addr) (c' : Nat) (don : List UInt8), k ≤ s ∧ i = .int .i64 k ∧ u = .int .i64 v' ∧ b = .slice A' (n + k) c' ∧
      Hid (Pk.low s v = don ++ Pk.low (s - k) v') ∧ wr.ownsRow base 5 1 (.slice A' (n + k) c') (n + k) (bv (xs ++ don)) ∧ App w wr (.slice A n c) (.slice A' (n + k) c'))
    (fun _ _ i _ => s - (intOf i).toNat)
  case atStart => exact ⟨0, v, A, c, [], by omega, rfl, rfl, rfl, hd (by simp), by simpa using h, App.refl _ _⟩
  case round =>
    obtain ⟨k, v', A', c', don, hk, rfl, rfl, rfl, hlow, hown, happ⟩ := hrel
    by_cases hlt : k < s
    · have hsz := happ.size
      go_wp2_with (at_builtin; refine wpList_app _ rfl _ _ 22 rfl base 5 i0 _ 1 1 Try.underlying22 hi0 hz0 hz1 hz2 rfl (by omega) (.slice A' (n + k) c') (n + k) (bv (xs ++ don)) rfl (hown.alloc _) (some ⟨wr.heap.size, 0, none⟩) 1 1 [.int .u8 (v' % 256)] rfl (Rd.one _ _ _) (oneCell_one _ _) (by omega) (by omega) (by simp; omega) ?_; intro v1 w1 hown1 hg1 hat1; have hX := (happ.then_ext (Ext.new wr _)).trans (App.of_law hg1 hat1); obtain ⟨A2, c2, rfl, _⟩ := own_form hown1; clear hg1 hat1 happ hown)
      rw [bv_snoc] at hown1
      go_roundw
      case rel => exact ⟨k + 1, v' / 256, A2, c2, don ++ [Pk.byte v'], by omega, by go_num, rfl, rfl, hd (Pk.low_step hlt hlow.out), by rw [← List.append_assoc]; exact hown1, hX⟩
      case measure => simp [intOf]; omega
    · have hks : k = s := by omega
      subst hks
      have hl := hlow.out
      simp only [Nat.sub_self, Pk.low, List.append_nil] at hl
      have Hl := hd hl
      clear hl
      go_wp2
      go_ret
      exact ⟨A', c', rfl, by rw [Hl.out]; exact hown, happ⟩

/-- what is owned lies not in a given row -/
theorem one_length (k : Int) (c : List UInt8) : (Pk.one k c).length = if c.length = 0 then 0 else c.length + 4 := by
  unfold Pk.one
  split
  · rfl
  · simp [Pk.low_length]; omega

set_option maxHeartbeats 400000 in
theorem section_any (A B : Option Addr) (n c m d : Nat) (k : Int) (xs cs : List UInt8) (base : Nat) (w : World) (h : w.ownsRow base 5 1 (.slice A n c) n (bv xs)) (hb : base ≤ w.heap.size) (hn : n ≤ 140737480000000) (hm : m ≤ 1000000)
    (hr : Rd w 1 B m (bv cs)) (hne : 0 < m → ∀ ad, B = some ad → (Value.slice A n c).ownBlock ≠ some ad.block) :
    Calls Try.prog 71 #[.slice A n c, .int .i64 k, .slice B m d] w fun e w' => ∃ A' c', e = .returned (.slice A' (n + (Pk.one k cs).length) c') ∧ w'.ownsRow base 5 1 (.slice A' (n + (Pk.one k cs).length) c') (n + (Pk.one k cs).length) (bv (xs ++ Pk.one k cs)) ∧ App w w' (.slice A n c) (.slice A' (n + (Pk.one k cs).length) c') := by
  have hcs : cs.length = m := by have := hr.1; rw [bv_length] at this; omega
  by_cases hm0 : m = 0
  · subst hm0
    have h0 : cs = [] := List.eq_nil_of_length_eq_zero hcs
    subst h0
    clear hcs
    go_enter Try.func71, Try.ntmps71
    go_wp2
    go_ret
    exact ⟨A, c, rfl, by simpa [Pk.one] using h, App.refl _ _⟩
  · have Hcs := hd hcs
    have Hne := hd (hne (by omega))
    clear hcs hne
    obtain ⟨i0, hi0, hz0, hz1, hz2⟩ := info_parts info5
    go_enter Try.func71, Try.ntmps71
    go_wp2_with (first | (at_builtin; refine wpList_app _ rfl (.tmp 11) (.tmp 14) 22 rfl base 5 i0 _ 1 1 Try.underlying22 hi0 hz0 hz1 hz2 rfl (by omega) (.slice A n c) n (bv xs) rfl (h.alloc _) (some ⟨w.heap.size, 0, none⟩) 1 1 [.int .u8 (k % 256)] rfl (Rd.one _ _ _) (oneCell_one _ _) (by omega) (by omega) (by simp; omega) ?_; intro v1 w1 hown1 hg1 hat1; have hX := ((App.refl w _).then_ext (Ext.new w _)).trans (App.of_law hg1 hat1); obtain ⟨A1, c1, rfl, _⟩ := own_form hown1; rw [bv_snoc] at hown1; have hs1 := hX.size) | (go_at_call 72; with_reducible refine (put_any A1 (n + 1) c1 3 3 m _ base _ hown1 (by omega) (by omega) (by omega) rfl).mono ?_; rintro e w2 ⟨A2, c2, rfl, hown2, hX2⟩; have hXX := hX.trans hX2; have hs2 := hXX.size; have hr2 := hXX.rd hr Hne.out) | (at_builtin; refine wpList_app _ rfl (.tmp 20) (.tmp 21) 22 rfl base 5 i0 _ 1 1 Try.underlying22 hi0 hz0 hz1 hz2 rfl (by omega) (.slice A2 (n + 1 + 3) c2) (n + 1 + 3) _ rfl hown2 B m d (bv cs) rfl hr2 (bv_one _) (by omega) (by omega) (by omega) ?_; intro v3 w3 hown3 hg3 hat3; have hX3 := hXX.trans (App.of_law hg3 hat3); obtain ⟨A3, c3, rfl, _⟩ := own_form hown3))
    go_ret
    have eL : (Pk.one k cs).length = m + 4 := by rw [one_length, Hcs.out, if_neg hm0]
    have e1 : n + 1 + 3 + m = n + (Pk.one k cs).length := by omega
    have e2 : xs ++ [Pk.byte k] ++ Pk.low 3 ↑m ++ cs = xs ++ Pk.one k cs := by
      unfold Pk.one
      rw [Hcs.out, if_neg hm0]
      simp
    rw [← bv_append, e1, e2] at hown3
    rw [e1] at hX3
    exact ⟨A3, c3, by rw [← e1]; rfl, hown3, hX3⟩

/-- the sum of some bytes -/
theorem sum_any (A : Option Addr) (n c : Nat) (xs : List UInt8) (w : World) (h : Rd w 1 A n (bv xs)) (hn : n ≤ 9000000000000000000) :
    Calls Try.prog 73 #[.slice A n c] w fun e w' => e = .returned (.int .u32 (Pk.sum xs)) ∧ w = w' := by
  have hx : xs.length = n := by have := h.1; rw [bv_length] at this; omega
  have Hx := hd hx
  clear hx
  go_enter Try.func73, Try.ntmps73
  go_wp2
  go_loop [3, 8] (fun s i => ∃ k : Nat, k ≤ n ∧ i = .int .i64 k ∧ s = .int .u32 (Pk.sum (xs.take k))) (fun _ i => n - (intOf i).toNat)
  case atStart => exact ⟨0, by omega, rfl, rfl⟩
  case round =>
    obtain ⟨k, hk, rfl, rfl⟩ := hrel
    by_cases hlt : k < n
    · obtain ⟨b, o, rfl, hc⟩ := h.form (by omega) (by omega)
      have hkx : k < xs.length := by have := Hx.out; omega
      have c0 := hc _ _ (bv_get xs k hkx)
      clear hc
      have hs := Pk.sum_lt (xs.take k)
      have hb := xs[k].toNat_lt
      have E1 := hd (Pk.sum_step xs k hkx)
      have E2 := hd (u32_xor_nat (Pk.sum (xs.take k)) xs[k].toNat hs (by omega))
      go_wp2
      go_round
      case rel => exact ⟨k + 1, by omega, by go_num, by rw [E2.out, E1.out, Pk.step]; rfl⟩
      case measure => simp [intOf]; omega
    · go_wp2
      go_ret
      exact ⟨by rw [List.take_of_length_le (by rw [Hx.out]; omega)]; rfl, rfl⟩

/-- the number of some bytes -/
theorem get_any (A : Option Addr) (n c : Nat) (xs : List UInt8) (w : World) (h : Rd w 1 A n (bv xs)) (hn : n ≤ 5) :
    Calls Try.prog 81 #[.slice A n c] w fun e w' => e = .returned (.int .i64 (Pk.val xs)) ∧ w = w' := by
  have hx : xs.length = n := by have := h.1; rw [bv_length] at this; omega
  have Hx := hd hx
  clear hx
  go_enter Try.func81, Try.ntmps81
  go_wp2
  go_loop [3, 4] (fun s i => ∃ k : Nat, k ≤ n ∧ i = .int .i64 ((k : Int) - 1) ∧ s = .int .i64 (Pk.val (xs.drop k))) (fun _ i => (intOf i + 1).toNat)
  case atStart => exact ⟨n, by omega, rfl, by rw [List.drop_of_length_le (by rw [Hx.out]; omega)]; rfl⟩
  case round =>
    obtain ⟨k, hk, rfl, rfl⟩ := hrel
    by_cases hlt : 0 < k
    · obtain ⟨j, rfl⟩ : ∃ j, k = j + 1 := ⟨k - 1, by omega⟩
      obtain ⟨b, o, rfl, hc⟩ := h.form (by omega) (by omega)
      have hkx : j < xs.length := by have := Hx.out; omega
      have c0 := hc _ _ (bv_get xs j hkx)
      clear hc
      have e0 : ((j + 1 : Nat) : Int) - 1 = (j : Int) := by omega
      have hb := xs[j].toNat_lt
      have hv : Pk.val (xs.drop (j + 1)) < 4294967296 := Pk.val_small _ (by rw [List.length_drop, Hx.out]; omega)
      have E1 := hd (Pk.val_drop xs j hkx)
      have E2 := hd (int_or_byte (Pk.val (xs.drop (j + 1))) xs[j].toNat (by omega) (by omega))
      rw [e0]
      clear e0
      go_wp2
      go_round
      case rel => exact ⟨j, by omega, rfl, by rw [E1.out, ← E2.out]; rfl⟩
      case measure => simp [intOf]
    · have hk0 : k = 0 := by omega
      subst hk0
      go_wp2
      go_ret
      exact ⟨rfl, rfl⟩
end Go.Proofs.Ytfcbedkidjclhaa
