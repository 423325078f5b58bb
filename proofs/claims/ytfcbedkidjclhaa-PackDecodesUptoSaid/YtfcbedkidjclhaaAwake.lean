/-
  The contract of the statements' 'awake': it answers true. And what Encode and Decode answer, in the form that the statements' walks take.
  No condition.
-/
import Derived.Test.YtfcbedkidjclhaaDec6
namespace Go.Proofs.Ytfcbedkidjclhaa
open Go.RowKit
set_option maxRecDepth 100000
set_option linter.unusedSimpArgs false
set_option linter.unusedVariables false

theorem own_le {w : World} {base n c sz : Nat} {e : TypeId} {A : Option Addr} {xs : List Value} (h : w.ownsRow base e sz (.slice A n c) n xs) : n ≤ c := by
  obtain ⟨A', c', he, hn, _⟩ := own_form h
  injection he with _ _ h3
  omega

theorem EncPost.at_ {l : List UInt8} {n : Int} {m : Nat} {w w' : World} {e : Ending} (h : EncPost (l, n) w e w') (hl : l.length = m) :
    ∃ A c, e = .returned (.tuple #[.slice A m c, .int .i64 n]) ∧ w'.ownsRow w.heap.size 5 1 (.slice A m c) m (bv l) ∧ m ≤ c ∧ Rd w' 1 A m (bv l) ∧ Ext w w' := by
  subst hl
  obtain ⟨A, c, he, ho, hX⟩ := h
  exact ⟨A, c, he, ho, own_le ho, Rd.of_own ho, hX⟩

theorem DecPost.at_ {lo hi : Int} {data code : List UInt8} {ts : List (Int × Int)} {p m1 m2 m3 : Nat} {p' n : Int} {w w' : World} {e : Ending} (h : DecPost (⟨lo, hi, data, ts, code⟩, p, n) w e w') (h1 : data.length = m1) (h2 : ts.length = m2) (h3 : code.length = m3) (hp : (p : Int) = p') :
    ∃ D c1 T c2 C c3, e = .returned (.tuple #[.agg #[.int .i64 lo, .int .i64 hi, .slice D m1 c1, .slice T m2 c2, .slice C m3 c3], .int .i64 p', .int .i64 n]) ∧
      Rd w' 1 D m1 (bv data) ∧ Rd w' 2 T m2 (tv ts) ∧ Rd w' 1 C m3 (bv code) ∧ Ext w w' := by
  obtain ⟨D, n1, c1, T, n2, c2, C, n3, c3, he, hX, o1, o2, o3, _⟩ := h
  have r1 := Rd.of_own o1
  have r2 := Rd.of_own o2
  have r3 := Rd.of_own o3
  have e1 := r1.1
  have e2 := r2.1
  have e3 := r3.1
  simp only [bv_length, tv_length] at e1 e2 e3
  obtain rfl : n1 = m1 := by omega
  obtain rfl : n2 = m2 := by omega
  obtain rfl : n3 = m3 := by omega
  subst hp
  exact ⟨D, c1, T, c2, C, c3, he, r1, r2, r3, hX⟩

theorem Num_any (n : Int) (w : World) : Calls Try.prog 32 #[.int .i64 n] w fun e w' => e = .returned (.int .i64 n) ∧ w = w' := by
  go_enter Try.func32, Try.ntmps32
  go_wp2
  go_ret
  exact ⟨rfl, rfl⟩

set_option maxHeartbeats 1000000 in
theorem awake_any (w : World) : Calls Try.prog 24 #[] w fun e w' => e = .returned (.bool true) ∧ Ext w w' := by
  have hE : Pk.encode 1 258 [7] [] [] = (Pk.bytes 1 258 [7] [] [], 0) := by decide +kernel
  have hD : Pk.decode (Pk.bytes 1 258 [7] [] []) = (⟨1, 258, [7], [], []⟩, 0, 0) := Pk.decode_bytes 1 258 [7] [] [] (by decide +kernel) (by decide +kernel)
  have hl : (Pk.bytes 1 258 [7] [] []).length = 21 := by decide +kernel
  have h8 : (bv (Pk.bytes 1 258 [7] [] []))[8]? = some (.int .u8 1) := by kernel_rfl
  have h10 : (bv (Pk.bytes 1 258 [7] [] []))[10]? = some (.int .u8 2) := by kernel_rfl
  have h16 : (bv (Pk.bytes 1 258 [7] [] []))[16]? = some (.int .u8 7) := by kernel_rfl
  generalize Pk.bytes 1 258 [7] [] [] = L at *
  have HE := hd hE
  have HD := hd hD
  have HL := hd hl
  have H8 := hd h8
  have H10 := hd h10
  have H16 := hd h16
  clear hE hD hl h8 h10 h16
  go_enter Try.func24, Try.ntmps24
  go_wp2_with (first | (go_at_call 27; (with_reducible refine (Encode_any 1 258 (some ⟨w.heap.size, 0, none⟩) none none 1 0 0 1 0 0 [7] [] [] _ (Rd.one w _ 5) Rd.nil_ Rd.nil_ (by omega) (by omega) (by omega)).mono ?_); rw [HE.out]; intro e w1 hP1; obtain ⟨A, c, rfl, own1, hc1, rd1, hX1⟩ := hP1.at_ HL.out; obtain ⟨b, o, rfl, hcc⟩ := rd1.form (by omega) (by omega); have c8 := hcc 8 _ H8.out; have c10 := hcc 10 _ H10.out; have c16 := hcc 16 _ H16.out; clear hcc) | (go_at_call 39; (with_reducible refine (Decode_any (some ⟨b, o, none⟩) 21 c L _ rd1 (by omega) hc1).mono ?_); rw [HD.out]; intro e w2 hP2; obtain ⟨D, c1, T, c2, C, c3, rfl, r1, r2, r3, hX2⟩ := hP2.at_ (m1 := 1) (m2 := 0) (m3 := 0) (p' := 0) rfl rfl rfl rfl) | (go_at_call 32; (with_reducible refine (Num_any _ _).mono ?_); rintro e v ⟨rfl, rfl⟩))
  go_ret
  exact ⟨rfl, (((Ext.new w _).trans hX1).trans hX2).alloc _⟩

end Go.Proofs.Ytfcbedkidjclhaa
