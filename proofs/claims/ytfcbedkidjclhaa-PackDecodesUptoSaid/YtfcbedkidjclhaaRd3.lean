/-
  The contract of the document's fault of a section.
  Conditions: the bytes can be read, not very many; the section begins among them.
-/
import Derived.Test.YtfcbedkidjclhaaRd1
import Derived.Deep.CutBlock
namespace Go.Proofs.Ytfcbedkidjclhaa
open Go.RowKit
set_option maxRecDepth 100000
set_option linter.unusedSimpArgs false
set_option linter.unusedVariables false

def FaultPost (x : Nat × Int × Nat) (w : World) (e : Ending) (w' : World) : Prop :=
  e = .returned (.tuple #[.int .i64 (x.1 : Int), .int .i64 x.2.1, .int .i64 (x.2.2 : Int)]) ∧ Ext w w'

theorem fault_ret {X : Nat × Int × Nat} {q en : Nat} {er a t : Int} {w w' : World} (h : X = (q, er, en)) (ha : a = (q : Int)) (ht : t = (en : Int)) (hX : Ext w w') : FaultPost X w (.returned (.tuple #[.int .i64 a, .int .i64 er, .int .i64 t])) w' := by
  subst h ha ht
  exact ⟨rfl, hX⟩
theorem slice_midK (b o N c i j : Nat) (hij : i ≤ j) (hj : j ≤ c) (hi : i < c) (v : World) (I J : Int) (eI : I = (i : Int)) (eJ : J = (j : Int)) :
    Sem.run Try.prog (Instr.slice 22 (.slice (some ⟨b, o, none⟩) N c) (some (.int .i64 I)) (some (.int .i64 J)) none) v = .ok (.slice (some ⟨b, o + i, none⟩) (j - i) (c - i)) v := by
  subst eI eJ
  have h1 : (i : Int) ≤ (j : Int) := by omega
  have h2 : (j : Int) ≤ (c : Int) := by omega
  have h3 : ¬ c = i := by omega
  simp [go_sem, Try.underlying22, h1, h2, h3]

theorem Rd.midK {w : World} {b o N : Nat} {bs : List UInt8} (h : Rd w 1 (some ⟨b, o, none⟩) N (bv bs)) {i k : Nat} (hk : i + k ≤ N) : Rd w 1 (some ⟨b, o + i, none⟩) k (bv ((bs.drop i).take k)) := by
  refine ⟨?_, fun _ => ⟨_, rfl, fun j u hu => ?_⟩⟩
  · have := h.1
    rw [bv_length] at this
    rw [bv_length, List.length_take, List.length_drop]; omega
  · have e : (⟨b, o + i, none⟩ : Addr).add j = (⟨b, o, none⟩ : Addr).add (i + j) := by
      unfold Addr.add
      split <;> split <;> simp_all [Nat.add_assoc]
    rw [e]
    refine h.cells (i + j) u ?_
    rw [bv, List.getElem?_map] at hu ⊢
    rw [← hu, List.getElem?_take]
    split
    · rw [List.getElem?_drop]
    · rename_i hj
      rw [List.getElem?_take, if_neg hj] at hu
      cases hu

theorem fault_c1 {bs : List UInt8} {pos kind : Nat} (h : (bs.getD pos 0).toNat < 1 ∨ 4 < (bs.getD pos 0).toNat ∨ (bs.getD pos 0).toNat ≤ kind ∨ (kind = 0 ∧ (bs.getD pos 0).toNat ≠ 1)) : Pk.fault bs pos kind = (pos, 120, bs.length) := by
  unfold Pk.fault; simp only; rw [if_pos h]
theorem fault_c2 {bs : List UInt8} {pos kind : Nat} (h : ¬ ((bs.getD pos 0).toNat < 1 ∨ 4 < (bs.getD pos 0).toNat ∨ (bs.getD pos 0).toNat ≤ kind ∨ (kind = 0 ∧ (bs.getD pos 0).toNat ≠ 1))) (h2 : bs.length < pos + 4) : Pk.fault bs pos kind = (bs.length, 120, bs.length) := by
  unfold Pk.fault; simp only; rw [if_neg h, if_pos h2]
/-- the rest, the kind and the size told -/
def faultR (bs : List UInt8) (pos k size : Nat) : Nat × Int × Nat :=
  let c := (bs.drop (pos + 4)).take size
  if size = 0 ∨ (k = 1 ∧ size ≠ 4) ∨ (k = 2 ∧ size % 2 = 1) then (pos + 1, 120, bs.length)
  else if k = 2 ∧ 16 < size then (pos + 1, 122, bs.length)
  else if k = 3 ∧ 4096 < size then (pos + 1, 123, bs.length)
  else if bs.length < pos + 4 + size then (bs.length, 120, bs.length)
  else if k = 1 ∧ Pk.val (c.drop 2) < Pk.val (c.take 2) then (pos + 4, 121, bs.length)
  else if k = 2 then (match c.findIdx? Pk.badB with | some i => (pos + 4 + i, 122, bs.length) | none => (0, 0, pos + 4 + size))
  else (0, 0, pos + 4 + size)
theorem fault_c3 {bs : List UInt8} {pos kind : Nat} (h : ¬ ((bs.getD pos 0).toNat < 1 ∨ 4 < (bs.getD pos 0).toNat ∨ (bs.getD pos 0).toNat ≤ kind ∨ (kind = 0 ∧ (bs.getD pos 0).toNat ≠ 1))) (h2 : ¬ bs.length < pos + 4) :
    Pk.fault bs pos kind = faultR bs pos (bs.getD pos 0).toNat (Pk.val ((bs.drop (pos + 1)).take 3)) := by
  unfold Pk.fault faultR; simp only; rw [if_neg h, if_neg h2]; rfl

theorem slice_toK (b o N c j : Nat) (hj : j ≤ c) (v : World) (J : Int) (eJ : J = (j : Int)) :
    Sem.run Try.prog (Instr.slice 22 (.slice (some ⟨b, o, none⟩) N c) none (some (.int .i64 J)) none) v = .ok (.slice (some ⟨b, o, none⟩) j c) v := by
  subst eJ
  have h2 : (j : Int) ≤ (c : Int) := by omega
  simp [go_sem, Try.underlying22, h2]
theorem slice_fromK (b o N c i : Nat) (hi : i ≤ N) (hN : N ≤ c) (hc : i < c) (v : World) (I : Int) (eI : I = (i : Int)) :
    Sem.run Try.prog (Instr.slice 22 (.slice (some ⟨b, o, none⟩) N c) (some (.int .i64 I)) none none) v = .ok (.slice (some ⟨b, o + i, none⟩) (N - i) (c - i)) v := by
  subst eI
  have h1 : (i : Int) ≤ (N : Int) := by omega
  have h2 : (N : Int) ≤ (c : Int) := by omega
  have h3 : ¬ c = i := by omega
  simp [go_sem, Try.underlying22, h1, h2, h3]
theorem find_hit {l : List UInt8} {j : Nat} (h : j < l.length) (hno : (l.take j).any Pk.badB = false) (hb : Pk.badB l[j] = true) : l.findIdx? Pk.badB = some j := by
  rw [List.findIdx?_eq_some_iff_getElem]
  refine ⟨h, hb, fun i hi => ?_⟩
  have h1 : (l.take j).length = j := by rw [List.length_take]; omega
  have := (List.any_eq_false.mp hno) (l.take j)[i] (List.getElem_mem (by omega))
  simpa using this
theorem find_none {l : List UInt8} (hno : l.any Pk.badB = false) : l.findIdx? Pk.badB = none := by
  rw [List.findIdx?_eq_none_iff]
  intro x hx
  have := (List.any_eq_false.mp hno) x hx
  simpa using this
theorem any_nextK {l : List UInt8} {j : Nat} (h : j < l.length) (hno : (l.take j).any Pk.badB = false) (hb : Pk.badB l[j] = false) : (l.take (j + 1)).any Pk.badB = false := by
  rw [List.take_succ_eq_append_getElem h, List.any_append, hno]
  simp [hb]

set_option maxHeartbeats 8000000 in
theorem RFault_any (A : Option Addr) (N c : Nat) (bs : List UInt8) (pos kind : Nat) (w : World) (hR : Rd w 1 A N (bv bs)) (hc : N ≤ c) (hN : N ≤ 131072) (hp : pos < N) (hk : kind ≤ 4) :
    Calls Try.prog 116 #[.slice A N c, .int .i64 (pos : Int), .int .i64 (kind : Int)] w (FaultPost (Pk.fault bs pos kind) w) := by
  have hl : bs.length = N := by have := hR.1; rw [bv_length] at this; omega
  obtain ⟨X, hX⟩ : ∃ X, Pk.fault bs pos kind = X := ⟨_, rfl⟩
  rw [hX]
  obtain ⟨b, o, rfl, hcell⟩ := hR.form (by omega) (by omega)
  have hpl : pos < bs.length := by omega
  have c0 := hcell _ _ (bv_get bs pos hpl)
  have hk8 := bs[pos].toNat_lt
  obtain ⟨k, hkk⟩ : ∃ k, bs[pos].toNat = k := ⟨_, rfl⟩
  have hkd : (bs.getD pos 0).toNat = k := by rw [← hkk, List.getD_eq_getElem?_getD, List.getElem?_eq_getElem hpl]; rfl
  rw [hkk] at c0 hk8
  have HL := hd hl
  have HKD := hd hkd
  clear hl hkd hkk hcell
  have e0 : (0 : Int) ≤ (pos : Int) := by omega
  have e1 : (pos : Int) < (N : Int) := by omega
  by_cases h1 : k < 1 ∨ 4 < k ∨ k ≤ kind ∨ (kind = 0 ∧ k ≠ 1)
  · have HX := hd (show X = (pos, 120, N) by rw [← hX, fault_c1 (by rw [HKD.out]; exact h1), HL.out])
    clear hX
    rw [HX.out]
    rcases h1 with h1 | h1 | h1 | ⟨h1, h2⟩
    · have e2 : (k : Int) < 1 := by omega
      go_enter Try.func116, Try.ntmps116
      go_wp2
      go_ret3
      exact ⟨rfl, Ext.refl _⟩
    · have e2 : ¬ (k : Int) < 1 := by omega
      have e3 : (4 : Int) < (k : Int) := by omega
      go_enter Try.func116, Try.ntmps116
      go_wp2
      go_ret3
      exact ⟨rfl, Ext.refl _⟩
    · have e2 : (k : Int) ≤ (kind : Int) := by omega
      go_enter Try.func116, Try.ntmps116
      go_wp2
      all_goals go_ret3
      all_goals exact ⟨rfl, Ext.refl _⟩
    · subst h1
      have e2 : ((k : Int) != 1) = true := by simp; omega
      go_enter Try.func116, Try.ntmps116
      go_wp2
      all_goals go_ret3
      all_goals exact ⟨rfl, Ext.refl _⟩
  · have f1 : ¬ (k : Int) < 1 := by omega
    have f2 : ¬ (4 : Int) < (k : Int) := by omega
    have f3 : ¬ (k : Int) ≤ (kind : Int) := by omega
    have hkz : kind = 0 → k = 1 := by omega
    by_cases h2 : N < pos + 4
    · have HX := hd (show X = (N, 120, N) by rw [← hX, fault_c2 (by rw [HKD.out]; exact h1) (by rw [HL.out]; exact h2), HL.out])
      clear hX
      rw [HX.out]
      have e4 : (N : Int) - (pos : Int) < 4 := by omega
      go_enter Try.func116, Try.ntmps116
      go_upto_region 3 with (fail)
      go_cut [40] from 22 to 40 (fun v W => v = .bool false ∧ W = w)
      case first =>
        by_cases hz : kind = 0
        · obtain rfl := hkz hz
          subst hz
          go_wp2
          go_meet
          case rel => exact ⟨rfl, rfl⟩
        · have e5 : ((kind : Int) == 0) = false := by simp; omega
          go_wp2
          go_meet
          case rel => exact ⟨rfl, rfl⟩
      case rest =>
      obtain ⟨rfl, hwc⟩ := hcut
      rw [hwc]
      clear hwc
      go_wp2
      go_ret3
      exact ⟨rfl, Ext.refl _⟩
    · obtain ⟨size, hsz⟩ : ∃ size, Pk.val ((bs.drop (pos + 1)).take 3) = size := ⟨_, rfl⟩
      have hsl : size < 16777216 := by
        rw [← hsz]
        have h5 := Pk.val_lt ((bs.drop (pos + 1)).take 3)
        have h6 : ((bs.drop (pos + 1)).take 3).length = 3 := by rw [List.length_take, List.length_drop, HL.out]; omega
        rw [h6] at h5
        omega
      have HX := hd (show X = faultR bs pos k size by rw [← hX, fault_c3 (by rw [HKD.out]; exact h1) (by rw [HL.out]; exact h2), HKD.out, hsz])
      have HSZ := hd hsz
      clear hX hsz
      have e4 : ¬ (N : Int) - (pos : Int) < 4 := by omega
      have hs3 := slice_midK b o N c (pos + 1) (pos + 4) (by omega) (by omega) (by omega) w ((pos : Int) + 1) ((pos : Int) + 4) (by omega) (by omega)
      rw [show pos + 4 - (pos + 1) = 3 by omega] at hs3
      have hm3 : Rd w 1 (some ⟨b, o + (pos + 1), none⟩) 3 (bv ((bs.drop (pos + 1)).take 3)) := hR.midK (i := pos + 1) (k := 3) (by omega)
      go_enter Try.func116, Try.ntmps116
      go_upto_region 3 with (fail)
      go_cut [40] from 22 to 40 (fun v W => v = .bool false ∧ W = w)
      case first =>
        by_cases hz : kind = 0
        · obtain rfl := hkz hz
          subst hz
          go_wp2
          go_meet
          case rel => exact ⟨rfl, rfl⟩
        · have e5 : ((kind : Int) == 0) = false := by simp; omega
          go_wp2
          go_meet
          case rel => exact ⟨rfl, rfl⟩
      case rest =>
      obtain ⟨rfl, hwc⟩ := hcut
      rw [hwc]
      clear hwc
      go_upto_region 8 with (go_at_call 115; (with_reducible refine (RVal_any _ 3 _ _ _ hm3 (by omega)).mono ?_); rw [HSZ.out]; rintro e v1 ⟨rfl, rfl⟩)
      clear hs3 hm3
      have hXf := HX.out
      unfold faultR at hXf
      simp only [HL.out] at hXf
      have hk4 : k = 1 ∨ k = 2 ∨ k = 3 ∨ k = 4 := by omega
      clear HX f1 f2 f3 hkz h1 hk
      by_cases hz : size = 0
      · subst hz
        rw [if_pos (.inl rfl)] at hXf
        have HXF := hd hXf
        clear hXf
        obtain rfl | rfl | rfl | rfl := hk4
        all_goals
          go_wp2
          go_ret3
          exact fault_ret HXF.out (by first | rfl | omega) (by first | rfl | omega) (Ext.refl _)
      · have z1 : ((size : Int) == 0) = false := by simp; omega
        have z2 : (0 : Int) < (size : Int) := by omega
        obtain rfl | rfl | rfl | rfl := hk4
        · -- the lengths
          by_cases h4 : size = 4
          · subst h4
            rw [if_neg (by omega), if_neg (by omega), if_neg (by omega)] at hXf
            by_cases hend : N < pos + 4 + 4
            · rw [if_pos hend] at hXf
              have HXF := hd hXf
              have e6 : (N : Int) < (pos : Int) + 4 + 4 := by omega
              clear hXf
              go_wp2
              go_ret3
              exact fault_ret HXF.out (by first | rfl | omega) (by first | rfl | omega) (Ext.refl _)
            · rw [if_neg hend] at hXf
              have e6 : ¬ (N : Int) < (pos : Int) + 4 + 4 := by omega
              obtain ⟨cs, hcs⟩ : ∃ cs, (bs.drop (pos + 4)).take 4 = cs := ⟨_, rfl⟩
              rw [hcs] at hXf
              have hm4 : Rd w 1 (some ⟨b, o + (pos + 4), none⟩) 4 (bv cs) := by rw [← hcs]; exact hR.midK (by omega)
              have hcl : cs.length = 4 := by have := hm4.1; rw [bv_length] at this; omega
              have ha : Rd w 1 (some ⟨b, o + (pos + 4), none⟩) 2 (bv (cs.take 2)) := by have := hm4.take (k := 2) (by omega); rwa [Nat.mul_one, bv_take] at this
              have hb2 : Rd w 1 (some ⟨b, o + (pos + 4) + 2, none⟩) 2 (bv (cs.drop 2)) := by
                have := hm4.midK (i := 2) (k := 2) (by omega)
                rwa [List.take_of_length_le (by rw [List.length_drop]; omega)] at this
              obtain ⟨V1, hV1⟩ : ∃ V, Pk.val (cs.take 2) = V := ⟨_, rfl⟩
              obtain ⟨V2, hV2⟩ : ∃ V, Pk.val (cs.drop 2) = V := ⟨_, rfl⟩
              rw [hV1, hV2] at hXf
              have hsl := slice_midK b o N c (pos + 4) (pos + 4 + 4) (by omega) (by omega) (by omega) w ((pos : Int) + 4) ((pos : Int) + 4 + 4) (by omega) (by omega)
              rw [show pos + 4 + 4 - (pos + 4) = 4 by omega] at hsl
              have hs1 := fun v => slice_toK b (o + (pos + 4)) 4 (c - (pos + 4)) 2 (by omega) v 2 rfl
              have hs2 := fun v => slice_fromK b (o + (pos + 4)) 4 (c - (pos + 4)) 2 (by omega) (by omega) (by omega) v 2 rfl
              rw [show 4 - 2 = 2 from rfl] at hs2
              obtain ⟨oc, hoc⟩ : ∃ oc, o + (pos + 4) = oc := ⟨_, rfl⟩
              obtain ⟨oc2, hoc2⟩ : ∃ oc2, oc + 2 = oc2 := ⟨_, rfl⟩
              obtain ⟨cc, hcc⟩ : ∃ cc, c - (pos + 4) = cc := ⟨_, rfl⟩
              obtain ⟨cc2, hcc2⟩ : ∃ cc2, cc - 2 = cc2 := ⟨_, rfl⟩
              rw [hoc, hcc] at hsl hs1 hs2
              rw [hoc2, hcc2] at hs2
              rw [hoc] at ha hb2
              rw [hoc2] at hb2
              have C1 : Hid (∀ m, Calls Try.prog 115 #[.slice (some ⟨b, oc, none⟩) 2 cc] (w.drewN m) fun e w' => e = Ending.returned (.int .i64 (V1 : Int)) ∧ w' = w.drewN m) := hd fun m =>
                (RVal_any _ 2 cc _ (w.drewN m) (ha.drewN m) (by omega)).mono fun e w' ⟨he, hw⟩ => ⟨by rw [he, hV1], hw.symm⟩
              have C2 : Hid (∀ m, Calls Try.prog 115 #[.slice (some ⟨b, oc2, none⟩) 2 cc2] (w.drewN m) fun e w' => e = Ending.returned (.int .i64 (V2 : Int)) ∧ w' = w.drewN m) := hd fun m =>
                (RVal_any _ 2 cc2 _ (w.drewN m) (hb2.drewN m) (by omega)).mono fun e w' ⟨he, hw⟩ => ⟨by rw [he, hV2], hw.symm⟩
              clear ha hb2 hV1 hV2 hcs hcl hm4 hoc hoc2 hcc hcc2
              go_upto_region 17 with (fail)
              go_quiet (first | (go_at_call 115; with_reducible exact Calls.quiet_of_same (C1.out _)) | (go_at_call 115; with_reducible exact Calls.quiet_of_same (C2.out _)))
              by_cases hV : V2 < V1
              · rw [if_pos ⟨rfl, hV⟩] at hXf
                have HXF := hd hXf
                have e7 : (V2 : Int) < (V1 : Int) := by omega
                clear hXf
                go_wp2
                go_ret3
                exact fault_ret HXF.out (by first | rfl | omega) (by first | rfl | omega) ((Ext.refl _).drewN _)
              · rw [if_neg (by omega), if_neg (by omega)] at hXf
                have HXF := hd hXf
                have e7 : ¬ (V2 : Int) < (V1 : Int) := by omega
                clear hXf hs1 hs2
                go_wp2
                go_loopw [13, 14] (fun i _ wr => i = .int .i64 0 ∧ Ext w wr) (fun _ _ _ => 0)
                case atStart => exact ⟨rfl, (Ext.refl _).drewN _⟩
                case round =>
                  obtain ⟨rfl, hXr⟩ := hrel
                  go_wp2
                  go_ret3
                  exact fault_ret HXF.out (by first | rfl | omega) (by first | rfl | omega) hXr
          · rw [if_pos (.inr (.inl ⟨rfl, h4⟩))] at hXf
            have HXF := hd hXf
            have e6 : ((size : Int) != 4) = true := by simp; omega
            clear hXf
            go_wp2
            go_ret3
            exact fault_ret HXF.out (by first | rfl | omega) (by first | rfl | omega) (Ext.refl _)
        · -- the tables
          have ht : Int.tmod (size : Int) 2 = ((size % 2 : Nat) : Int) := by rw [Int.tmod_eq_emod_of_nonneg (by omega)]; omega
          by_cases hodd : size % 2 = 1
          · rw [if_pos (.inr (.inr ⟨rfl, hodd⟩))] at hXf
            have HXF := hd hXf
            have e6 : (size : Int) % 2 = 1 := by omega
            clear hXf ht
            go_wp2
            go_ret3
            exact fault_ret HXF.out (by first | rfl | omega) (by first | rfl | omega) (Ext.refl _)
          · rw [if_neg (by omega)] at hXf
            have e6 : (size : Int) % 2 = 0 := by omega
            by_cases h16 : 16 < size
            · rw [if_pos ⟨rfl, h16⟩] at hXf
              have HXF := hd hXf
              have e7 : (8 : Int) < (size : Int) / 2 := by omega
              clear hXf ht
              go_wp2
              go_ret3
              exact fault_ret HXF.out (by first | rfl | omega) (by first | rfl | omega) (Ext.refl _)
            · rw [if_neg (by omega), if_neg (by omega)] at hXf
              have e7 : ¬ (8 : Int) < (size : Int) / 2 := by omega
              by_cases hend : N < pos + 4 + size
              · rw [if_pos hend] at hXf
                have HXF := hd hXf
                have e8 : (N : Int) < (pos : Int) + 4 + (size : Int) := by omega
                clear hXf ht
                go_wp2
                go_ret3
                exact fault_ret HXF.out (by first | rfl | omega) (by first | rfl | omega) (Ext.refl _)
              · rw [if_neg hend] at hXf
                have e8 : ¬ (N : Int) < (pos : Int) + 4 + (size : Int) := by omega
                rw [if_neg (by omega), if_pos rfl] at hXf
                obtain ⟨cs, hcs⟩ : ∃ cs, (bs.drop (pos + 4)).take size = cs := ⟨_, rfl⟩
                rw [hcs] at hXf
                have hm4 : Rd w 1 (some ⟨b, o + (pos + 4), none⟩) size (bv cs) := by rw [← hcs]; exact hR.midK (by omega)
                have hcl : cs.length = size := by have := hm4.1; rw [bv_length] at this; omega
                have hsl := slice_midK b o N c (pos + 4) (pos + 4 + size) (by omega) (by omega) (by omega) w ((pos : Int) + 4) ((pos : Int) + 4 + (size : Int)) (by omega) (by omega)
                rw [show pos + 4 + size - (pos + 4) = size by omega] at hsl
                have HXF := hd hXf
                have HCL := hd hcl
                clear hXf hcs hcl ht
                go_upto_region 17 with (fail)
                go_quiet (fail)
                go_wp2
                go_loopw [13, 14] (fun i _ wr => ∃ j : Nat, i = .int .i64 (j : Int) ∧ j ≤ size ∧ Hid ((cs.take j).any Pk.badB = false) ∧ Ext w wr) (fun i _ _ => size - (intOf i).toNat)
                case atStart => exact ⟨0, rfl, by omega, hd (by simp), (Ext.refl _).drewN _⟩
                case round =>
                  obtain ⟨j, rfl, hj, HN0, hXr⟩ := hrel
                  by_cases hlt : j < size
                  · have f1 : (j : Int) < (size : Int) := by omega
                    have hjl : j < cs.length := by rw [HCL.out]; exact hlt
                    obtain ⟨b', o', hbo, hcell⟩ := (hm4.ext hXr).form (by omega) (by omega)
                    injection hbo with hbo
                    injection hbo with hb1 hb2
                    subst hb1
                    subst hb2
                    have cj := hcell _ _ (bv_get cs j hjl)
                    have hx8 := cs[j].toNat_lt
                    have HHIT := hd (find_hit hjl HN0.out)
                    have HNEXT := hd (any_nextK hjl HN0.out)
                    have hbad : Pk.badB cs[j] = (decide (cs[j].toNat < 1) || decide (64 < cs[j].toNat)) := rfl
                    have HBAD := hd hbad
                    generalize cs[j] = x at cj hx8 HHIT HNEXT HBAD
                    generalize x.toNat = xn at cj hx8 HBAD
                    clear hcell hbad
                    have hpar : j % 2 = 0 ∨ j % 2 = 1 := Nat.mod_two_eq_zero_or_one j
                    rcases Nat.lt_or_ge xn 1 with hx1 | hx1
                    · have HXG := hd (show X = (pos + 4 + j, 122, N) by rw [HXF.out, HHIT.out (by rw [HBAD.out]; simp; omega)])
                      have f2 : (xn : Int) < 1 := by omega
                      rcases hpar with hpar | hpar
                      · have f3 : (j : Int) % 2 = 0 := by omega
                        go_wp2
                        go_ret3
                        exact fault_ret HXG.out (by first | rfl | omega) (by first | rfl | omega) hXr
                      · have f3 : (j : Int) % 2 = 1 := by omega
                        go_wp2
                        go_ret3
                        exact fault_ret HXG.out (by first | rfl | omega) (by first | rfl | omega) hXr
                    · have f2 : ¬ (xn : Int) < 1 := by omega
                      rcases Nat.lt_or_ge 64 xn with hx2 | hx2
                      · have HXG := hd (show X = (pos + 4 + j, 122, N) by rw [HXF.out, HHIT.out (by rw [HBAD.out]; simp; omega)])
                        have f4 : (64 : Int) < (xn : Int) := by omega
                        rcases hpar with hpar | hpar
                        · have f3 : (j : Int) % 2 = 0 := by omega
                          go_wp2
                          go_ret3
                          exact fault_ret HXG.out (by first | rfl | omega) (by first | rfl | omega) hXr
                        · have f3 : (j : Int) % 2 = 1 := by omega
                          go_wp2
                          go_ret3
                          exact fault_ret HXG.out (by first | rfl | omega) (by first | rfl | omega) hXr
                      · have f4 : ¬ (64 : Int) < (xn : Int) := by omega
                        have HNX := hd (HNEXT.out (by rw [HBAD.out]; simp; omega))
                        rcases hpar with hpar | hpar
                        · have f3 : (j : Int) % 2 = 0 := by omega
                          go_wp2
                          go_roundw
                          case rel => exact ⟨j + 1, by go_num, by omega, HNX, hXr⟩
                          case measure => simp [intOf]; omega
                        · have f3 : (j : Int) % 2 = 1 := by omega
                          go_wp2
                          go_roundw
                          case rel => exact ⟨j + 1, by go_num, by omega, HNX, hXr⟩
                          case measure => simp [intOf]; omega
                  · obtain rfl : j = size := by omega
                    have f1 : ¬ (j : Int) < (j : Int) := by omega
                    have HXG := hd (show X = (0, 0, pos + 4 + j) by
                      have hno := HN0.out
                      rw [List.take_of_length_le (by rw [HCL.out]; omega)] at hno
                      rw [HXF.out, find_none hno])
                    go_wp2
                    go_ret3
                    exact fault_ret HXG.out (by first | rfl | omega) (by first | rfl | omega) hXr
        · -- the data
          rw [if_neg (by omega), if_neg (by omega)] at hXf
          by_cases h4 : 4096 < size
          · rw [if_pos ⟨rfl, h4⟩] at hXf
            have HXF := hd hXf
            have e6 : (4096 : Int) < (size : Int) := by omega
            clear hXf
            go_wp2
            go_ret3
            exact fault_ret HXF.out (by first | rfl | omega) (by first | rfl | omega) (Ext.refl _)
          · rw [if_neg (by omega)] at hXf
            have e6 : ¬ (4096 : Int) < (size : Int) := by omega
            by_cases hend : N < pos + 4 + size
            · rw [if_pos hend] at hXf
              have HXF := hd hXf
              have e8 : (N : Int) < (pos : Int) + 4 + (size : Int) := by omega
              clear hXf
              go_wp2
              go_ret3
              exact fault_ret HXF.out (by first | rfl | omega) (by first | rfl | omega) (Ext.refl _)
            · rw [if_neg hend, if_neg (by omega), if_neg (by omega)] at hXf
              have e8 : ¬ (N : Int) < (pos : Int) + 4 + (size : Int) := by omega
              have HXF := hd hXf
              have hsl := slice_midK b o N c (pos + 4) (pos + 4 + size) (by omega) (by omega) (by omega) w ((pos : Int) + 4) ((pos : Int) + 4 + (size : Int)) (by omega) (by omega)
              clear hXf
              go_upto_region 17 with (fail)
              go_quiet (fail)
              go_wp2
              go_loopw [13, 14] (fun i _ wr => i = .int .i64 0 ∧ Ext w wr) (fun _ _ _ => 0)
              case atStart => exact ⟨rfl, (Ext.refl _).drewN _⟩
              case round =>
                obtain ⟨rfl, hXr⟩ := hrel
                go_wp2
                go_ret3
                exact fault_ret HXF.out (by first | rfl | omega) (by first | rfl | omega) hXr
        · -- the code
          rw [if_neg (by omega), if_neg (by omega), if_neg (by omega)] at hXf
          by_cases hend : N < pos + 4 + size
          · rw [if_pos hend] at hXf
            have HXF := hd hXf
            have e8 : (N : Int) < (pos : Int) + 4 + (size : Int) := by omega
            clear hXf
            go_wp2
            go_ret3
            exact fault_ret HXF.out (by first | rfl | omega) (by first | rfl | omega) (Ext.refl _)
          · rw [if_neg hend, if_neg (by omega), if_neg (by omega)] at hXf
            have e8 : ¬ (N : Int) < (pos : Int) + 4 + (size : Int) := by omega
            have HXF := hd hXf
            have hsl := slice_midK b o N c (pos + 4) (pos + 4 + size) (by omega) (by omega) (by omega) w ((pos : Int) + 4) ((pos : Int) + 4 + (size : Int)) (by omega) (by omega)
            clear hXf
            go_upto_region 17 with (fail)
            go_quiet (fail)
            go_wp2
            go_loopw [13, 14] (fun i _ wr => i = .int .i64 0 ∧ Ext w wr) (fun _ _ _ => 0)
            case atStart => exact ⟨rfl, (Ext.refl _).drewN _⟩
            case round =>
              obtain ⟨rfl, hXr⟩ := hrel
              go_wp2
              go_ret3
              exact fault_ret HXF.out (by first | rfl | omega) (by first | rfl | omega) hXr

end Go.Proofs.Ytfcbedkidjclhaa
