/-
  The contract of pack's (*reader).section: a section that is right as far as its contents; the whole.
  Conditions: as in Dec3.
-/
import Derived.Test.YtfcbedkidjclhaaDec3
namespace Go.Proofs.Ytfcbedkidjclhaa
open Go.RowKit
set_option maxRecDepth 100000
set_option linter.unusedSimpArgs false
set_option linter.unusedVariables false

/-- what contents answers, handed on -/
def ContSect (x : Except (Nat × Int) Pk.C) (pos kind : Nat) : Except (Nat × Int) Pk.R := match x with | .error e => .error e | .ok c => .ok ⟨pos, kind, c⟩
theorem RB.far {w0 w : World} {g L pos kind F i : Nat} {A : Option Addr} {c : Pk.C} {cs : Array Value} (h : RB w0 w g A L pos kind c) (hF : Blk w F 121 cs) (h0 : w0.heap.size ≤ F) (u : Value) : RB w0 (w.setCell ⟨F, i, none⟩ u) g A L pos kind c := by
  obtain ⟨hX, hold, D, n1, c1, T, n2, c2, C, n3, c3, hB, o1, o2, o3, hne⟩ := h
  exact ⟨hX.set (p := ⟨F, i, none⟩) h0 u, hold, D, n1, c1, T, n2, c2, C, n3, c3, hB.far (p := ⟨F, i, none⟩) (hB.ne_ hF (by decide)) u, own_set o1 (own_blk_ne o1 hF (by decide)) u, own_set o2 (own_blk_ne o2 hF (by decide)) u, own_set o3 (own_blk_ne o3 hF (by decide)) u, hne⟩
theorem SectPost.stored {x : Except (Nat × Int) Pk.C} {w0 w w' : World} {g L pos kind F : Nat} {A : Option Addr} {e : Ending} {cs : Array Value} (h : ContPost x w0 w g A L pos kind e w') (hF : Blk w' F 121 cs) (h0 : w0.heap.size ≤ F) (u v : Value) :
    SectPost (ContSect x pos kind) w0 g A L e ((w'.setCell ⟨F, 0, none⟩ u).setCell ⟨F, 1, none⟩ v) := by
  obtain ⟨_, h⟩ := h
  match x, h with
  | .error (p, n), h => exact ⟨h.1, (h.2.set (p := ⟨F, 0, none⟩) h0 u).set (p := ⟨F, 1, none⟩) h0 v⟩
  | .ok c, h => exact ⟨h.1, (h.2.far hF h0 u).far (hF.set_ 0 u) h0 v⟩
/-- the shape of what contents answers -/
theorem ContPost.form {x : Except (Nat × Int) Pk.C} {w0 w w' : World} {g L pos kind : Nat} {A : Option Addr} {e : Ending} (h : ContPost x w0 w g A L pos kind e w') : ∃ (p n : Int) (b : Bool), e = .returned (.tuple #[.agg #[.int .i64 p, .int .i64 n], .bool b]) := by
  obtain ⟨_, h⟩ := h
  match x, h with
  | .error (p, n), h => exact ⟨p, n, false, h.1⟩
  | .ok c, h => exact ⟨0, 0, true, h.1⟩

end Go.Proofs.Ytfcbedkidjclhaa
