/-
  The contract of pack's (*reader).section, whole: it answers as Pk.sect says.
  Conditions: the bytes read as a list, in memory that was there before the reader; the reader's block is known whole; it stands ahead of the end.
-/
import Derived.Test.YtfcbedkidjclhaaDec4k1
import Derived.Test.YtfcbedkidjclhaaDec4k2
import Derived.Test.YtfcbedkidjclhaaDec4k3
import Derived.Test.YtfcbedkidjclhaaDec4k4
namespace Go.Proofs.Ytfcbedkidjclhaa
open Go.RowKit
set_option maxRecDepth 100000
set_option linter.unusedSimpArgs false
set_option linter.unusedVariables false

theorem SectPost.of_err {w0 w' : World} {g L p : Nat} {q n : Int} {A : Option Addr} {e : Ending} (hq : q = p) (h : e = .returned (.tuple #[.agg #[.int .i64 q, .int .i64 n], .bool false]) ∧ Ext w0 w') : SectPost (.error (p, n)) w0 g A L e w' := by
  subst hq
  exact h

theorem rsection_any (w0 w : World) (g L pos kind : Nat) (A : Option Addr) (c : Pk.C) (bs : List UInt8) (hR : RB w0 w g A L pos kind c) (hr : Rd w0 1 A L (bv bs)) (hL : L ≤ 1000000) (hpos : pos < L) (hkk : kind ≤ 4) (hts : c.ts.length ≤ 1000) :
    Calls Try.prog 82 #[.pointer (some ⟨g, 0, none⟩)] w (SectPost (Pk.sect bs ⟨pos, kind, c⟩) w0 g A L) := by
  have hbl : bs.length = L := by have := hr.1; rw [bv_length] at this; omega
  have hp : pos < bs.length := by omega
  obtain ⟨k, hk⟩ : ∃ k, bs[pos].toNat = k := ⟨_, rfl⟩
  obtain ⟨size, hsz⟩ : ∃ s, Pk.val ((bs.drop (pos + 1)).take 3) = s := ⟨_, rfl⟩
  have hk' : ∀ h : pos < bs.length, bs[pos].toNat = k := fun _ => hk
  rw [sect_eq hp hk hsz, hbl]
  by_cases h1 : k < 1 ∨ 4 < k ∨ k ≤ kind ∨ (kind = 0 ∧ k ≠ 1)
  · rw [if_pos h1]
    exact (section_kind w0 w g L pos kind k A c bs hR hr hL hpos hkk hk' h1).mono fun e w' h => SectPost.of_err rfl h
  rw [if_neg h1]
  by_cases h2 : L < pos + 4
  · rw [if_pos h2]
    exact (section_size w0 w g L pos kind k size A c bs hR hr hL hpos hkk hk' (by omega) (by omega) (by omega) (by omega) hsz L 120 (by omega)).mono fun e w' h => SectPost.of_err rfl h
  rw [if_neg h2]
  by_cases h3 : size = 0 ∨ (k = 1 ∧ size ≠ 4) ∨ (k = 2 ∧ size % 2 = 1)
  · rw [if_pos h3]
    exact (section_size w0 w g L pos kind k size A c bs hR hr hL hpos hkk hk' (by omega) (by omega) (by omega) (by omega) hsz ((pos : Int) + 1) 120 (by omega)).mono fun e w' h => SectPost.of_err (by omega) h
  rw [if_neg h3]
  by_cases h4 : k = 2 ∧ 16 < size
  · rw [if_pos h4]
    exact (section_size w0 w g L pos kind k size A c bs hR hr hL hpos hkk hk' (by omega) (by omega) (by omega) (by omega) hsz ((pos : Int) + 1) 122 (by omega)).mono fun e w' h => SectPost.of_err (by omega) h
  rw [if_neg h4]
  by_cases h5 : k = 3 ∧ 4096 < size
  · rw [if_pos h5]
    exact (section_size w0 w g L pos kind k size A c bs hR hr hL hpos hkk hk' (by omega) (by omega) (by omega) (by omega) hsz ((pos : Int) + 1) 123 (by omega)).mono fun e w' h => SectPost.of_err (by omega) h
  rw [if_neg h5]
  by_cases h6 : L < pos + 4 + size
  · rw [if_pos h6]
    exact (section_size w0 w g L pos kind k size A c bs hR hr hL hpos hkk hk' (by omega) (by omega) (by omega) (by omega) hsz L 120 (by omega)).mono fun e w' h => SectPost.of_err rfl h
  rw [if_neg h6]
  rcases (by omega : k = 1 ∨ k = 2 ∨ k = 3 ∨ k = 4) with rfl | rfl | rfl | rfl
  · exact section_good1 w0 w g L pos kind size A c bs hR hr hL hpos hk' (by omega) (by omega) hsz (by omega) (by omega) hts
  · exact section_good2 w0 w g L pos kind size A c bs hR hr hL hpos hk' (by omega) (by omega) hsz (by omega) (by omega) hts
  · exact section_good3 w0 w g L pos kind size A c bs hR hr hL hpos hk' (by omega) (by omega) hsz (by omega) (by omega) hts
  · exact section_good4 w0 w g L pos kind size A c bs hR hr hL hpos hk' (by omega) (by omega) hsz (by omega) (by omega) hts

end Go.Proofs.Ytfcbedkidjclhaa
