/-
  The contract of pack's (*reader).section.
  Conditions: the bytes read as a list, in memory that was there before the reader; the reader's block is known whole; it stands ahead of the end.
-/
import Derived.Test.YtfcbedkidjclhaaDec2
namespace Go.Proofs.Ytfcbedkidjclhaa
open Go.RowKit
set_option maxRecDepth 100000
set_option linter.unusedSimpArgs false
set_option linter.unusedVariables false

theorem contents_any (k : Nat) (w0 w : World) (g L pos s n : Nat) (A B : Option Addr) (c : Pk.C) (cs : List UInt8) (k' : Int) (ek : k' = (k : Int)) (hR : RB w0 w g A L pos k c) (hr : Rd w0 1 B n (bv cs)) (hk0 : 1 ≤ k) (hk1 : k ≤ 4) (hn : n ≤ 1000000) (hn0 : 0 < n)
    (h1 : k ≠ 1 ∨ n = 4) (h2 : k ≠ 2 ∨ n % 2 = 0) (hs : s ≤ 1000000) (hts : c.ts.length ≤ 1000) (s' : Int) (es : s' = (s : Int)) :
    Calls Try.prog 117 #[.pointer (some ⟨g, 0, none⟩), .int .i64 k', .slice B n n, .int .i64 s'] w (ContPost (Pk.cont k cs s c) w0 w g A L pos k) := by
  subst es
  subst ek
  rcases (by omega : k = 1 ∨ k = 2 ∨ k = 3 ∨ k = 4) with rfl | rfl | rfl | rfl
  · obtain rfl : n = 4 := by omega
    exact contents1 w0 w g L pos s A B c cs hR hr hs
  · exact contents2 w0 w g L pos s n A B c cs hR hr hn hn0 (by omega) hs hts
  · exact contents3 w0 w g L pos s n A B c cs hR hr hn hn0 hs
  · exact contents4 w0 w g L pos s n A B c cs hR hr hn hn0 hs

/-- what section answers -/
def SectPost (x : Except (Nat × Int) Pk.R) (w0 : World) (g : Nat) (A : Option Addr) (L : Nat) (e : Ending) (w' : World) : Prop :=
  match x with
  | .error (p, n) => e = .returned (.tuple #[.agg #[.int .i64 p, .int .i64 n], .bool false]) ∧ Ext w0 w'
  | .ok r => e = .returned (.tuple #[.agg #[.int .i64 0, .int .i64 0], .bool true]) ∧ RB w0 w' g A L r.pos r.kind r.c
theorem SectPost.err {x : Except (Nat × Int) Pk.R} {w0 w' : World} {g L p : Nat} {q n : Int} {A : Option Addr} (h : x = .error (p, n)) (hq : q = p) (hX : Ext w0 w') : SectPost x w0 g A L (.returned (.tuple #[.agg #[.int .i64 q, .int .i64 n], .bool false])) w' := by
  subst h
  subst hq
  exact ⟨rfl, hX⟩

/-- 'sect' with its two numbers named -/
theorem sect_eq {bs : List UInt8} {pos kind k size : Nat} {c : Pk.C} (hp : pos < bs.length) (hk : bs[pos].toNat = k) (hsz : Pk.val ((bs.drop (pos + 1)).take 3) = size) :
    Pk.sect bs ⟨pos, kind, c⟩ = if k < 1 ∨ 4 < k ∨ k ≤ kind ∨ (kind = 0 ∧ k ≠ 1) then .error (pos, 120)
      else if bs.length < pos + 4 then .error (bs.length, 120)
      else if size = 0 ∨ (k = 1 ∧ size ≠ 4) ∨ (k = 2 ∧ size % 2 = 1) then .error (pos + 1, 120)
      else if k = 2 ∧ 16 < size then .error (pos + 1, 122)
      else if k = 3 ∧ 4096 < size then .error (pos + 1, 123)
      else if bs.length < pos + 4 + size then .error (bs.length, 120)
      else match Pk.cont k ((bs.drop (pos + 4)).take size) (pos + 4) c with
        | .error e => .error e
        | .ok c => .ok ⟨pos + 4 + size, k, c⟩ := by
  have h0 : bs.getD pos 0 = bs[pos] := by simp [List.getD, List.getElem?_eq_getElem hp]
  unfold Pk.sect
  simp only [h0, hk, hsz]
  rfl

set_option maxHeartbeats 2000000 in
theorem section_kind (w0 w : World) (g L pos kind k : Nat) (A : Option Addr) (c : Pk.C) (bs : List UInt8) (hR : RB w0 w g A L pos kind c) (hr : Rd w0 1 A L (bv bs)) (hL : L ≤ 1000000) (hpos : pos < L) (hkk : kind ≤ 4)
    (hk : ∀ h : pos < bs.length, bs[pos].toNat = k) (h1 : k < 1 ∨ 4 < k ∨ k ≤ kind ∨ (kind = 0 ∧ k ≠ 1)) :
    Calls Try.prog 82 #[.pointer (some ⟨g, 0, none⟩)] w fun e w' => e = .returned (.tuple #[.agg #[.int .i64 pos, .int .i64 120], .bool false]) ∧ Ext w0 w' := by
  obtain ⟨hX0, hold, D, n1, c1, T, n2, c2, C, n3, c3, hB, o1, o2, o3, hne⟩ := hR
  have hbl : bs.length = L := by have := hr.1; rw [bv_length] at this; omega
  have hpl : pos < bs.length := by omega
  have HK := hd hk
  clear hbl hk
  go_enter Try.func82, Try.ntmps82
  go_upto_region 1 with (fail)
  refine wp_box121 ?_
  intro W hX hF
  have hB' := hB.ext hX
  obtain ⟨p0, p1, p2, p3, p4, p5, p6, p7⟩ := hB'.c8
  obtain ⟨b, o, rfl, hc⟩ := (hr.ext (hX0.trans hX)).form (by omega) (by omega)
  have ck := hc _ _ (bv_get bs pos hpl)
  rw [HK.out hpl] at ck
  clear hc
  have hk8 : k < 256 := by rw [← HK.out hpl]; exact bs[pos].toNat_lt
  have hwk : IntKind.i64.wrap (k : Int) = (k : Int) := by rw [IntKind.wrap_i64]; omega
  obtain ⟨f0, f1⟩ := hF.c2
  obtain ⟨f2, f3⟩ := hF.f2
  have hsz0 := hX0.size
  obtain ⟨x0, x1⟩ := (hF.s2 (.int .i64 (pos : Int)) (.int .i64 120)).c2
  have hXF := ((hX0.trans hX).set (p := ⟨w.heap.size, 0, none⟩) hsz0 (.int .i64 (pos : Int))).set (p := ⟨w.heap.size, 1, none⟩) hsz0 (.int .i64 120)
  rcases h1 with h1 | h1 | h1 | ⟨h1, h1'⟩
  · go_wp2
    exact bodyPost_ret (v := .tuple #[.agg #[.int .i64 pos, .int .i64 120], .bool false]) (by simp [results, Try.results82, go_sem, x0, x1]) rfl ⟨rfl, hXF⟩
  · go_wp2
    exact bodyPost_ret (v := .tuple #[.agg #[.int .i64 pos, .int .i64 120], .bool false]) (by simp [results, Try.results82, go_sem, x0, x1]) rfl ⟨rfl, hXF⟩
  · go_wp2
    all_goals exact bodyPost_ret (v := .tuple #[.agg #[.int .i64 pos, .int .i64 120], .bool false]) (by simp [results, Try.results82, go_sem, x0, x1]) rfl ⟨rfl, hXF⟩
  · have e2 : W.cell? ⟨g, 2, none⟩ = some (.int .i64 0) := by rw [p2, h1]; rfl
    clear p0 p1 p2 p3 p4 p5 p6 p7 hB' 
    have hk1 : ((k : Int) != 1) = true := by simp; omega
    have p0 := ((hB.ext hX).c8).1
    have p1 := ((hB.ext hX).c8).2.1
    go_wp2
    all_goals exact bodyPost_ret (v := .tuple #[.agg #[.int .i64 pos, .int .i64 120], .bool false]) (by simp [results, Try.results82, go_sem, x0, x1]) rfl ⟨rfl, hXF⟩

set_option maxHeartbeats 2000000 in
/-- behind a good kind: the size, its faults -/
theorem section_size (w0 w : World) (g L pos kind k size : Nat) (A : Option Addr) (c : Pk.C) (bs : List UInt8) (hR : RB w0 w g A L pos kind c) (hr : Rd w0 1 A L (bv bs)) (hL : L ≤ 1000000) (hpos : pos < L) (hkk : kind ≤ 4)
    (hk : ∀ h : pos < bs.length, bs[pos].toNat = k) (k1 : 1 ≤ k) (k4 : k ≤ 4) (kk : kind < k) (k0 : kind ≠ 0 ∨ k = 1) (hsz : Pk.val ((bs.drop (pos + 1)).take 3) = size) (p n : Int)
    (hf : (L < pos + 4 ∧ p = L ∧ n = 120) ∨ (pos + 4 ≤ L ∧ (((size = 0 ∨ (k = 1 ∧ size ≠ 4) ∨ (k = 2 ∧ size % 2 = 1)) ∧ p = pos + 1 ∧ n = 120) ∨ (¬ (size = 0 ∨ (k = 1 ∧ size ≠ 4) ∨ (k = 2 ∧ size % 2 = 1)) ∧
      ((k = 2 ∧ 16 < size ∧ p = pos + 1 ∧ n = 122) ∨ (k = 3 ∧ 4096 < size ∧ p = pos + 1 ∧ n = 123) ∨ ((k ≠ 2 ∨ size ≤ 16) ∧ (k ≠ 3 ∨ size ≤ 4096) ∧ L < pos + 4 + size ∧ p = L ∧ n = 120)))))) :
    Calls Try.prog 82 #[.pointer (some ⟨g, 0, none⟩)] w fun e w' => e = .returned (.tuple #[.agg #[.int .i64 p, .int .i64 n], .bool false]) ∧ Ext w0 w' := by
  obtain ⟨hX0, hold, D, n1, c1, T, n2, c2, C, n3, c3, hB, o1, o2, o3, hne⟩ := hR
  have hbl : bs.length = L := by have := hr.1; rw [bv_length] at this; omega
  have hpl : pos < bs.length := by omega
  have HK := hd hk
  have hs32 : size < 4294967296 := by rw [← hsz]; exact Pk.val_small _ (by simp; omega)
  have HS := hd hsz
  clear hbl hk hsz
  go_enter Try.func82, Try.ntmps82
  go_upto_region 1 with (fail)
  refine wp_box121 ?_
  intro W hX hF
  have hB' := hB.ext hX
  obtain ⟨p0, p1, p2, p3, p4, p5, p6, p7⟩ := hB'.c8
  obtain ⟨b, o, rfl, hc⟩ := (hr.ext (hX0.trans hX)).form (by omega) (by omega)
  have ck := hc _ _ (bv_get bs pos hpl)
  rw [HK.out hpl] at ck
  clear hc
  have hwk : IntKind.i64.wrap (k : Int) = (k : Int) := by rw [IntKind.wrap_i64]; omega
  obtain ⟨f0, f1⟩ := hF.c2
  obtain ⟨f2, f3⟩ := hF.f2
  have hsz0 := hX0.size
  obtain ⟨x0, x1⟩ := (hF.s2 (.int .i64 p) (.int .i64 n)).c2
  have hXF := ((hX0.trans hX).set (p := ⟨w.heap.size, 0, none⟩) hsz0 (.int .i64 p)).set (p := ⟨w.heap.size, 1, none⟩) hsz0 (.int .i64 n)
  have hrW := hr.ext (hX0.trans hX)
  have hmod : Int.tmod (size : Int) 2 = ((size % 2 : Nat) : Int) := by rw [Int.tmod_eq_emod_of_nonneg (by omega)]; omega
  have hg3 : pos + 4 ≤ L → Rd W 1 (some ⟨b, o + (pos + 1), none⟩) 3 (bv ((bs.drop (pos + 1)).take 3)) := fun h => by
      have := (hrW.cut (k := pos + 1) (cap := L + 5) (by omega) (by omega)).take (k := 3) (by omega)
      rw [if_neg (by omega), Nat.mul_one, Nat.mul_one, bv_drop, bv_take] at this
      simpa [Addr.add] using this
  have HG := hd hg3
  clear hg3
  rcases (by omega : k = 1 ∨ k = 2 ∨ k = 3 ∨ k = 4) with rfl | rfl | rfl | rfl
  · have ck' : W.cell? ⟨b, o + pos, none⟩ = some (.int .u8 1) := ck
    clear ck hwk
    have hk0 : kind = 0 := by omega
    have hf' : (L < pos + 4 ∧ p = L ∧ n = 120) ∨ (pos + 4 ≤ L ∧ ((size ≠ 4 ∧ p = pos + 1 ∧ n = 120) ∨ (size = 4 ∧ L < pos + 4 + size ∧ p = L ∧ n = 120))) := by omega
    clear hf k0
    subst hk0
    have p2' : W.cell? ⟨g, 2, none⟩ = some (.int .i64 0) := p2
    clear p2
    go_upto_region 5 with (fail)
    rcases hf' with ⟨hf, rfl, rfl⟩ | ⟨hf4, hf⟩
    · go_wp2
      exact bodyPost_ret (v := .tuple #[.agg #[.int .i64 _, .int .i64 _], .bool false]) (by simp [results, Try.results82, go_sem, x0, x1]) rfl ⟨rfl, hXF⟩
    · have hg := HG.out hf4
      go_upto_region 8 with (go_at_call 81; (with_reducible refine (get_any (some ⟨b, o + (pos + 1), none⟩) 3 _ _ _ hg (by omega)).mono ?_); rw [HS.out]; rintro e v1 ⟨rfl, rfl⟩)
      rcases hf with ⟨hz, rfl, rfl⟩ | ⟨hz, hf3, rfl, rfl⟩
      · have hb : ((size : Int) != 4) = true := by simp; omega
        go_wp2
        all_goals exact bodyPost_ret (v := .tuple #[.agg #[.int .i64 _, .int .i64 _], .bool false]) (by simp [results, Try.results82, go_sem, x0, x1]) rfl ⟨rfl, hXF⟩
      · have hb : ((size : Int) != 4) = false := by simp [hz]
        go_wp2
        all_goals exact bodyPost_ret (v := .tuple #[.agg #[.int .i64 _, .int .i64 _], .bool false]) (by simp [results, Try.results82, go_sem, x0, x1]) rfl ⟨rfl, hXF⟩
  · have ck' : W.cell? ⟨b, o + pos, none⟩ = some (.int .u8 2) := ck
    clear ck hwk
    have hf' : (L < pos + 4 ∧ p = L ∧ n = 120) ∨ (pos + 4 ≤ L ∧ (((size = 0 ∨ size % 2 = 1) ∧ p = pos + 1 ∧ n = 120) ∨ (size ≠ 0 ∧ size % 2 = 0 ∧ 16 < size ∧ p = pos + 1 ∧ n = 122) ∨ (size ≠ 0 ∧ size % 2 = 0 ∧ size ≤ 16 ∧ L < pos + 4 + size ∧ p = L ∧ n = 120))) := by omega
    have k0' : kind ≠ 0 := by omega
    clear hf k0
    go_upto_region 5 with (fail)
    rcases hf' with ⟨hf, rfl, rfl⟩ | ⟨hf4, hf⟩
    · go_wp2
      exact bodyPost_ret (v := .tuple #[.agg #[.int .i64 _, .int .i64 _], .bool false]) (by simp [results, Try.results82, go_sem, x0, x1]) rfl ⟨rfl, hXF⟩
    · have hg := HG.out hf4
      go_upto_region 8 with (go_at_call 81; (with_reducible refine (get_any (some ⟨b, o + (pos + 1), none⟩) 3 _ _ _ hg (by omega)).mono ?_); rw [HS.out]; rintro e v1 ⟨rfl, rfl⟩)
      rcases hf with ⟨hz | hz, rfl, rfl⟩ | ⟨hz, hz1, hz2, rfl, rfl⟩ | ⟨hz, hz1, hz2, hz3, rfl, rfl⟩
      all_goals go_wp2
      all_goals exact bodyPost_ret (v := .tuple #[.agg #[.int .i64 _, .int .i64 _], .bool false]) (by simp [results, Try.results82, go_sem, x0, x1]) rfl ⟨rfl, hXF⟩
  · have ck' : W.cell? ⟨b, o + pos, none⟩ = some (.int .u8 3) := ck
    clear ck hwk
    have hf' : (L < pos + 4 ∧ p = L ∧ n = 120) ∨ (pos + 4 ≤ L ∧ ((size = 0 ∧ p = pos + 1 ∧ n = 120) ∨ (size ≠ 0 ∧ 4096 < size ∧ p = pos + 1 ∧ n = 123) ∨ (size ≠ 0 ∧ size ≤ 4096 ∧ L < pos + 4 + size ∧ p = L ∧ n = 120))) := by omega
    have k0' : kind ≠ 0 := by omega
    clear hf k0
    go_upto_region 5 with (fail)
    rcases hf' with ⟨hf, rfl, rfl⟩ | ⟨hf4, hf⟩
    · go_wp2
      exact bodyPost_ret (v := .tuple #[.agg #[.int .i64 _, .int .i64 _], .bool false]) (by simp [results, Try.results82, go_sem, x0, x1]) rfl ⟨rfl, hXF⟩
    · have hg := HG.out hf4
      go_upto_region 8 with (go_at_call 81; (with_reducible refine (get_any (some ⟨b, o + (pos + 1), none⟩) 3 _ _ _ hg (by omega)).mono ?_); rw [HS.out]; rintro e v1 ⟨rfl, rfl⟩)
      rcases hf with ⟨hz, rfl, rfl⟩ | ⟨hz, hz2, rfl, rfl⟩ | ⟨hz, hz2, hz3, rfl, rfl⟩
      all_goals go_wp2
      all_goals exact bodyPost_ret (v := .tuple #[.agg #[.int .i64 _, .int .i64 _], .bool false]) (by simp [results, Try.results82, go_sem, x0, x1]) rfl ⟨rfl, hXF⟩
  · have ck' : W.cell? ⟨b, o + pos, none⟩ = some (.int .u8 4) := ck
    clear ck hwk
    have hf' : (L < pos + 4 ∧ p = L ∧ n = 120) ∨ (pos + 4 ≤ L ∧ ((size = 0 ∧ p = pos + 1 ∧ n = 120) ∨ (size ≠ 0 ∧ L < pos + 4 + size ∧ p = L ∧ n = 120))) := by omega
    have k0' : kind ≠ 0 := by omega
    clear hf k0
    go_upto_region 5 with (fail)
    rcases hf' with ⟨hf, rfl, rfl⟩ | ⟨hf4, hf⟩
    · go_wp2
      exact bodyPost_ret (v := .tuple #[.agg #[.int .i64 _, .int .i64 _], .bool false]) (by simp [results, Try.results82, go_sem, x0, x1]) rfl ⟨rfl, hXF⟩
    · have hg := HG.out hf4
      go_upto_region 8 with (go_at_call 81; (with_reducible refine (get_any (some ⟨b, o + (pos + 1), none⟩) 3 _ _ _ hg (by omega)).mono ?_); rw [HS.out]; rintro e v1 ⟨rfl, rfl⟩)
      rcases hf with ⟨hz, rfl, rfl⟩ | ⟨hz, hz3, rfl, rfl⟩
      all_goals go_wp2
      all_goals exact bodyPost_ret (v := .tuple #[.agg #[.int .i64 _, .int .i64 _], .bool false]) (by simp [results, Try.results82, go_sem, x0, x1]) rfl ⟨rfl, hXF⟩
end Go.Proofs.Ytfcbedkidjclhaa
