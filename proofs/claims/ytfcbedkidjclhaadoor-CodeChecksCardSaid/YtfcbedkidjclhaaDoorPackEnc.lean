/-
  The contract of pack.Encode: it answers the bytes or the error that Pk.encode says, in new memory; nothing that was there has turned.
  Conditions: the container's lists read as lists; each takes no more than 2^47 bytes.
-/
import Derived.Test.YtfcbedkidjclhaaDoorPack1
import Derived.Test.YtfcbedkidjclhaaDoorPack2
namespace Go.Proofs.YtfcbedkidjclhaaDoor
open Go.RowKit
set_option maxRecDepth 100000
set_option linter.unusedSimpArgs false
set_option linter.unusedVariables false

theorem oneCell_two (k k' : IntKind) (x y : Int) : ∀ u ∈ [Value.int k x, Value.int k' y], u.oneCell' = true := by
  intro u hu
  simp at hu
  rcases hu with rfl | rfl <;> rfl
theorem bv_snoc2 (l : List UInt8) (v u : Int) : bv l ++ [Value.int IntKind.u8 (v % 256), Value.int IntKind.u8 (u % 256)] = bv (l ++ [Pk.byte v, Pk.byte u]) := by
  rw [bv_append]
  congr 1
  simp only [bv, List.map_cons, List.map_nil, Pk.byte_toNat]
theorem magic_rd {w : World} {g : Nat} (h : Blk w g 5 #[.int .u8 87, .int .u8 80, .int .u8 75, .int .u8 49]) : Rd w 1 (some ⟨g, 0, none⟩) 4 (bv Pk.magic) :=
  ⟨rfl, fun _ => ⟨_, rfl, fun j u hu => by
    have e : (⟨g, 0, none⟩ : Addr).add j = ⟨g, j, none⟩ := by unfold Addr.add; split <;> simp_all
    rw [e, h.cell j]
    have : bv Pk.magic = [.int .u8 87, .int .u8 80, .int .u8 75, .int .u8 49] := rfl
    rw [this] at hu
    simpa using hu⟩⟩

/-- bytes that the call has made, and an error -/
def EncPost (r : List UInt8 × Int) (w : World) (e : Ending) (w' : World) : Prop :=
  ∃ A c, e = .returned (.tuple #[.slice A r.1.length c, .int .i64 r.2]) ∧ w'.ownsRow w.heap.size 5 1 (.slice A r.1.length c) r.1.length (bv r.1) ∧ Ext w w'

theorem EncPost.long {l : List UInt8} {w w' : World} (h : 131072 < l.length) (hX : Ext w w') : EncPost (Pk.short l) w (.returned (.tuple #[.slice none 0 0, .int .i64 2])) w' := by
  unfold Pk.short
  rw [if_pos h]
  exact ⟨none, 0, rfl, World.ownsRow_nil _ _ _ _, hX⟩
theorem EncPost.short {l : List UInt8} {w w' : World} {N c : Nat} {A : Option Addr} (h : ¬ 131072 < l.length) (hN : l.length = N) (ho : w'.ownsRow w.heap.size 5 1 (.slice A N c) N (bv l)) (hX : Ext w w') : EncPost (Pk.short l) w (.returned (.tuple #[.slice A N c, .int .i64 0])) w' := by
  unfold Pk.short
  rw [if_neg h]
  subst hN
  exact ⟨A, c, rfl, ho, hX⟩

theorem sizes_ts {lo hi : Int} {n : Nat} {ts : List (Int × Int)} (h : Pk.sizes lo hi n ts = 0) : ts.length ≤ 8 ∧ n ≤ 4096 ∧ (0 ≤ lo ∧ lo ≤ hi ∧ hi ≤ 65535) ∧ ts.any Pk.wrongB = false := by
  unfold Pk.sizes at h
  split at h
  · cases h
  · split at h
    · cases h
    · split at h
      · cases h
      · rename_i h1 h2 h3
        simp only [not_or, Bool.not_eq_true] at h2
        exact ⟨by omega, by omega, by omega, h2.2⟩

end Go.Proofs.YtfcbedkidjclhaaDoor
