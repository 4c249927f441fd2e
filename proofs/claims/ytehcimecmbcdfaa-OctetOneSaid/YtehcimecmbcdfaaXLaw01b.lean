/- The walk of the law OctetOne. -/
import Derived.Test.YtehcimecmbcdfaaXLaw01
set_option linter.unusedSimpArgs false
set_option linter.unusedVariables false
namespace Go.Proofs.Ytehcimecmbcdfaa
open Go.RowKit
set_option maxHeartbeats 2000000 in
theorem wOctetOne (v : Value) (l : List Int) (w : World) (hv : RdS w .u8 v l) (hby : Byt l) (hl : l.length ≤ 140737488351232) :
    Calls Try.prog 7 #[v] w fun e w' => e = .returned (.bool true) ∧ Below w.heap.size w w' := by
  obtain ⟨A, c, rfl, hc, hA0, hA⟩ := hv
  obtain ⟨i0, hi, hz0, hz1, hz2⟩ := info_parts info_u8
  obtain ⟨X, N, E, hu, hX, hU⟩ := uint_facts hby
  obtain ⟨Y, M, F, hs, hY, hS⟩ := sint_facts hby
  have hN : N ≤ l.length := by rcases hU with h | h <;> omega
  have hM : M ≤ l.length := by rcases hS with h | h <;> omega
  obtain ⟨A1, c1, hcut1, hr1⟩ := cut_h 36 5 Try.underlying36 hi hz1 A c l N hN hc hA0
  obtain ⟨A2, c2, hcut2, hr2⟩ := cut_h 36 5 Try.underlying36 hi hz1 A c l M hM hc hA0
  have HR1 := Lib.hid (hr1 w .u8 hA)
  have HR2 := Lib.hid (hr2 w .u8 hA)
  have HA : Hid (RdS w .u8 (.slice A l.length c) l) := ⟨A, c, rfl, hc, hA0, hA⟩
  have HB := Lib.hid hby
  have HU := Lib.hid hu
  have HS := Lib.hid hs
  have HY := Lib.hid hY
  clear hr1 hr2 hA hby hu hs hY hi hz0 hz1 hz2 hA0
  rcases hU with ⟨rfl, a1, a2, a3⟩ | ⟨a0, hX0, rfl⟩ <;> rcases hS with ⟨rfl, b1, b2, b3⟩ | ⟨b0, hY0, rfl⟩
  · have A1 := Lib.hid a1
    have A3 := Lib.hid a3
    clear a1 a3
    have B1 := Lib.hid b1
    have B3' := Lib.hid b3
    clear b1 b3
    have HL := Lib.hid hl
    go_enter Try.func7, Try.ntmps7
    go_wp2_with fail
    refine use_new HA.out (by omega) ?_
    intro p w1 hb1 hp hr1
    go_wp2_with fail
    refine use_new (HA.out.below hb1.out) (by omega) ?_
    intro q w2 hb2 hq hr2
    have hpq := Lib.hid (show p ≠ q by have := hr1.out.lt; have := hq.out; omega)
    have R1 := Lib.hid (hr1.out.below hb2.out)
    have B2 := Lib.hid (bl_tr hb1.out hb2.out)
    have HQ := Lib.hid (Nat.le_trans hb1.out.size hq.out)
    clear hr1 hb1 hb2 hq
    go_wp2_with fail
    refine use_b (awake01 _) ?_
    intro w3 hb3
    have R13 := Lib.hid (R1.out.below hb3.out)
    have R23 := Lib.hid (hr2.out.below hb3.out)
    have B3 := Lib.hid (bl_tr B2.out hb3.out)
    clear R1 hr2 hb3 B2
    go_wp2_with fail
    refine use_rd (octRUint p l 0 _ R13.out HB.out) ?_
    rw [List.drop_zero, HU.out, Nat.zero_add]
    intro w4 hk4 R14
    have R24 := Lib.hid (R23.out.other hk4.out R13.out hpq.out.symm)
    have B4 := Lib.hid (bl_kp B3.out hk4.out (fun k hk => hk ▸ hp.out))
    clear R13 R23 B3 hk4
    go_wp2_with fail
    refine use_rd (octRInt q l 0 _ R24.out HB.out) ?_
    rw [List.drop_zero, HS.out, Nat.zero_add]
    intro w5 hk5 R25
    have R15 := Lib.hid (R14.out.other hk5.out R24.out hpq.out)
    have B5 := Lib.hid (bl_kp B4.out hk5.out (fun k hk => hk ▸ HQ.out))
    clear R14 R24 B4 hk5
    go_wp2_with fail
    refine use_own2 (octUint_yes X _ hX) ?_
    intro v6 w6 hb6 ho6
    obtain ⟨A6, c6, rfl⟩ := ho6.out.form
    have R16 := Lib.hid (R15.out.below hb6.out)
    have R26 := Lib.hid (R25.out.below hb6.out)
    have B6 := Lib.hid (bl_tr B5.out hb6.out)
    clear R15 R25 B5 hb6
    go_wp2_with fail
    refine use_own (octInt_any _ _ HY.out) ?_
    intro v7 w7 hb7 ho7
    obtain ⟨A7, c7, rfl⟩ := ho7.out.form
    have R17 := Lib.hid (R16.out.below hb7.out)
    have R27 := Lib.hid (R26.out.below hb7.out)
    have B7 := Lib.hid (bl_tr B6.out hb7.out)
    have ho67 := Lib.hid (OwI.below ho6.out hb7.out)
    clear R16 R26 B6 hb7 ho6
    rw [A3.out] at ho67 ⊢
    rw [B3'.out] at ho7 ⊢
    go_wp2_with fail
    refine use_b (octLeft p l N _ R17.out) ?_
    intro w8 hb8
    go_wp2_with fail
    refine use_b (octLeft q l M _ (R27.out.below hb8.out)) ?_
    intro w9 hb9
    have B9 := Lib.hid (bl_tr (bl_tr B7.out hb8.out) hb9.out)
    go_wp2_with fail
    refine use_b (same_any _ _ (l.take N) (l.take N) _ (HR1.out.below B9.out) (by rw [← A1.out]; exact (OwI.below ho67.out (bl_tr hb8.out hb9.out)).rd)) ?_
    rw [decide_eq_true rfl]
    intro w10 hb10
    go_wp2_with fail
    refine use_b (same_any _ _ (l.take M) (l.take M) _ (HR2.out.below (bl_tr B9.out hb10.out)) (by rw [← B1.out]; exact (OwI.below ho7.out (bl_tr (bl_tr hb8.out hb9.out) hb10.out)).rd)) ?_
    rw [decide_eq_true rfl]
    intro w11 hb11
    have B11 := Lib.hid (bl_tr (bl_tr B9.out hb10.out) hb11.out)
    (try have e3 := E3.out)
    (try have f3 := F3.out)
    go_wp2
    go_ret
    exact ⟨by first | rfl | (simp; done), B11.out⟩
  · have A1 := Lib.hid a1
    have A3 := Lib.hid a3
    clear a1 a3
    have f1 : (F == 0) = false := by simp; omega
    have f2 : (F != 0) = true := by simp; omega
    have F3 := Lib.hid (show (Y == 0) = true by simp; omega)
    have HY0 := Lib.hid hY0
    clear hY0 b0
    rw [Int.natCast_zero] at hcut2
    have HL := Lib.hid hl
    go_enter Try.func7, Try.ntmps7
    go_wp2_with fail
    refine use_new HA.out (by omega) ?_
    intro p w1 hb1 hp hr1
    go_wp2_with fail
    refine use_new (HA.out.below hb1.out) (by omega) ?_
    intro q w2 hb2 hq hr2
    have hpq := Lib.hid (show p ≠ q by have := hr1.out.lt; have := hq.out; omega)
    have R1 := Lib.hid (hr1.out.below hb2.out)
    have B2 := Lib.hid (bl_tr hb1.out hb2.out)
    have HQ := Lib.hid (Nat.le_trans hb1.out.size hq.out)
    clear hr1 hb1 hb2 hq
    go_wp2_with fail
    refine use_b (awake01 _) ?_
    intro w3 hb3
    have R13 := Lib.hid (R1.out.below hb3.out)
    have R23 := Lib.hid (hr2.out.below hb3.out)
    have B3 := Lib.hid (bl_tr B2.out hb3.out)
    clear R1 hr2 hb3 B2
    go_wp2_with fail
    refine use_rd (octRUint p l 0 _ R13.out HB.out) ?_
    rw [List.drop_zero, HU.out, Nat.zero_add]
    intro w4 hk4 R14
    have R24 := Lib.hid (R23.out.other hk4.out R13.out hpq.out.symm)
    have B4 := Lib.hid (bl_kp B3.out hk4.out (fun k hk => hk ▸ hp.out))
    clear R13 R23 B3 hk4
    go_wp2_with fail
    refine use_rd (octRInt q l 0 _ R24.out HB.out) ?_
    rw [List.drop_zero, HS.out, Nat.zero_add]
    intro w5 hk5 R25
    have R15 := Lib.hid (R14.out.other hk5.out R24.out hpq.out)
    have B5 := Lib.hid (bl_kp B4.out hk5.out (fun k hk => hk ▸ HQ.out))
    clear R14 R24 B4 hk5
    go_wp2_with fail
    refine use_own2 (octUint_yes X _ hX) ?_
    intro v6 w6 hb6 ho6
    obtain ⟨A6, c6, rfl⟩ := ho6.out.form
    have R16 := Lib.hid (R15.out.below hb6.out)
    have R26 := Lib.hid (R25.out.below hb6.out)
    have B6 := Lib.hid (bl_tr B5.out hb6.out)
    clear R15 R25 B5 hb6
    go_wp2_with fail
    refine use_own (octInt_any _ _ HY.out) ?_
    intro v7 w7 hb7 ho7
    obtain ⟨A7, c7, rfl⟩ := ho7.out.form
    have R17 := Lib.hid (R16.out.below hb7.out)
    have R27 := Lib.hid (R26.out.below hb7.out)
    have B7 := Lib.hid (bl_tr B6.out hb7.out)
    have ho67 := Lib.hid (OwI.below ho6.out hb7.out)
    clear R16 R26 B6 hb7 ho6
    rw [A3.out] at ho67 ⊢
    go_wp2_with fail
    refine use_b (octLeft p l N _ R17.out) ?_
    intro w8 hb8
    go_wp2_with fail
    refine use_b (octLeft q l 0 _ (R27.out.below hb8.out)) ?_
    intro w9 hb9
    have B9 := Lib.hid (bl_tr (bl_tr B7.out hb8.out) hb9.out)
    go_wp2_with fail
    refine use_b (same_any _ _ (l.take N) (l.take N) _ (HR1.out.below B9.out) (by rw [← A1.out]; exact (OwI.below ho67.out (bl_tr hb8.out hb9.out)).rd)) ?_
    rw [decide_eq_true rfl]
    intro w10 hb10
    go_wp2_with fail
    refine use_b (same_any _ _ (l.take 0) (l.take 0) _ (HR2.out.below (bl_tr B9.out hb10.out)) (by exact RdS.nil _ _)) ?_
    rw [decide_eq_true rfl]
    intro w11 hb11
    have B11 := Lib.hid (bl_tr (bl_tr B9.out hb10.out) hb11.out)
    (try have e3 := E3.out)
    (try have f3 := F3.out)
    go_wp2
    go_ret
    exact ⟨by first | rfl | (simp; done), B11.out⟩
  · have B1 := Lib.hid b1
    have B3' := Lib.hid b3
    clear b1 b3
    have e1 : (E == 0) = false := by simp; omega
    have e2 : (E != 0) = true := by simp; omega
    have E3 := Lib.hid (show ((X : Int) == 0) = true by simp; omega)
    have HX0 := Lib.hid hX0
    clear hX0 a0
    rw [Int.natCast_zero] at hcut1
    have HL := Lib.hid hl
    go_enter Try.func7, Try.ntmps7
    go_wp2_with fail
    refine use_new HA.out (by omega) ?_
    intro p w1 hb1 hp hr1
    go_wp2_with fail
    refine use_new (HA.out.below hb1.out) (by omega) ?_
    intro q w2 hb2 hq hr2
    have hpq := Lib.hid (show p ≠ q by have := hr1.out.lt; have := hq.out; omega)
    have R1 := Lib.hid (hr1.out.below hb2.out)
    have B2 := Lib.hid (bl_tr hb1.out hb2.out)
    have HQ := Lib.hid (Nat.le_trans hb1.out.size hq.out)
    clear hr1 hb1 hb2 hq
    go_wp2_with fail
    refine use_b (awake01 _) ?_
    intro w3 hb3
    have R13 := Lib.hid (R1.out.below hb3.out)
    have R23 := Lib.hid (hr2.out.below hb3.out)
    have B3 := Lib.hid (bl_tr B2.out hb3.out)
    clear R1 hr2 hb3 B2
    go_wp2_with fail
    refine use_rd (octRUint p l 0 _ R13.out HB.out) ?_
    rw [List.drop_zero, HU.out, Nat.zero_add]
    intro w4 hk4 R14
    have R24 := Lib.hid (R23.out.other hk4.out R13.out hpq.out.symm)
    have B4 := Lib.hid (bl_kp B3.out hk4.out (fun k hk => hk ▸ hp.out))
    clear R13 R23 B3 hk4
    go_wp2_with fail
    refine use_rd (octRInt q l 0 _ R24.out HB.out) ?_
    rw [List.drop_zero, HS.out, Nat.zero_add]
    intro w5 hk5 R25
    have R15 := Lib.hid (R14.out.other hk5.out R24.out hpq.out)
    have B5 := Lib.hid (bl_kp B4.out hk5.out (fun k hk => hk ▸ HQ.out))
    clear R14 R24 B4 hk5
    go_wp2_with fail
    refine use_own2 (octUint_yes X _ hX) ?_
    intro v6 w6 hb6 ho6
    obtain ⟨A6, c6, rfl⟩ := ho6.out.form
    have R16 := Lib.hid (R15.out.below hb6.out)
    have R26 := Lib.hid (R25.out.below hb6.out)
    have B6 := Lib.hid (bl_tr B5.out hb6.out)
    clear R15 R25 B5 hb6
    go_wp2_with fail
    refine use_own (octInt_any _ _ HY.out) ?_
    intro v7 w7 hb7 ho7
    obtain ⟨A7, c7, rfl⟩ := ho7.out.form
    have R17 := Lib.hid (R16.out.below hb7.out)
    have R27 := Lib.hid (R26.out.below hb7.out)
    have B7 := Lib.hid (bl_tr B6.out hb7.out)
    have ho67 := Lib.hid (OwI.below ho6.out hb7.out)
    clear R16 R26 B6 hb7 ho6
    rw [B3'.out] at ho7 ⊢
    go_wp2_with fail
    refine use_b (octLeft p l 0 _ R17.out) ?_
    intro w8 hb8
    go_wp2_with fail
    refine use_b (octLeft q l M _ (R27.out.below hb8.out)) ?_
    intro w9 hb9
    have B9 := Lib.hid (bl_tr (bl_tr B7.out hb8.out) hb9.out)
    go_wp2_with fail
    refine use_b (same_any _ _ (l.take 0) (l.take 0) _ (HR1.out.below B9.out) (by exact RdS.nil _ _)) ?_
    rw [decide_eq_true rfl]
    intro w10 hb10
    go_wp2_with fail
    refine use_b (same_any _ _ (l.take M) (l.take M) _ (HR2.out.below (bl_tr B9.out hb10.out)) (by rw [← B1.out]; exact (OwI.below ho7.out (bl_tr (bl_tr hb8.out hb9.out) hb10.out)).rd)) ?_
    rw [decide_eq_true rfl]
    intro w11 hb11
    have B11 := Lib.hid (bl_tr (bl_tr B9.out hb10.out) hb11.out)
    (try have e3 := E3.out)
    (try have f3 := F3.out)
    go_wp2
    go_ret
    exact ⟨by first | rfl | (simp; done), B11.out⟩
  · have e1 : (E == 0) = false := by simp; omega
    have e2 : (E != 0) = true := by simp; omega
    have f1 : (F == 0) = false := by simp; omega
    have f2 : (F != 0) = true := by simp; omega
    have F3 := Lib.hid (show (Y == 0) = true by simp; omega)
    have HY0 := Lib.hid hY0
    clear hY0 b0
    rw [Int.natCast_zero] at hcut2
    have HL := Lib.hid hl
    go_enter Try.func7, Try.ntmps7
    go_wp2_with fail
    refine use_new HA.out (by omega) ?_
    intro p w1 hb1 hp hr1
    go_wp2_with fail
    refine use_new (HA.out.below hb1.out) (by omega) ?_
    intro q w2 hb2 hq hr2
    have hpq := Lib.hid (show p ≠ q by have := hr1.out.lt; have := hq.out; omega)
    have R1 := Lib.hid (hr1.out.below hb2.out)
    have B2 := Lib.hid (bl_tr hb1.out hb2.out)
    have HQ := Lib.hid (Nat.le_trans hb1.out.size hq.out)
    clear hr1 hb1 hb2 hq
    go_wp2_with fail
    refine use_b (awake01 _) ?_
    intro w3 hb3
    have R13 := Lib.hid (R1.out.below hb3.out)
    have R23 := Lib.hid (hr2.out.below hb3.out)
    have B3 := Lib.hid (bl_tr B2.out hb3.out)
    clear R1 hr2 hb3 B2
    go_wp2_with fail
    refine use_rd (octRUint p l 0 _ R13.out HB.out) ?_
    rw [List.drop_zero, HU.out, Nat.zero_add]
    intro w4 hk4 R14
    have R24 := Lib.hid (R23.out.other hk4.out R13.out hpq.out.symm)
    have B4 := Lib.hid (bl_kp B3.out hk4.out (fun k hk => hk ▸ hp.out))
    clear R13 R23 B3 hk4
    go_wp2_with fail
    refine use_rd (octRInt q l 0 _ R24.out HB.out) ?_
    rw [List.drop_zero, HS.out, Nat.zero_add]
    intro w5 hk5 R25
    have R15 := Lib.hid (R14.out.other hk5.out R24.out hpq.out)
    have B5 := Lib.hid (bl_kp B4.out hk5.out (fun k hk => hk ▸ HQ.out))
    clear R14 R24 B4 hk5
    go_wp2_with fail
    refine use_own2 (octUint_yes 0 _ (by omega)) ?_
    intro v6 w6 hb6 ho6
    obtain ⟨A6, c6, rfl⟩ := ho6.out.form
    have R16 := Lib.hid (R15.out.below hb6.out)
    have R26 := Lib.hid (R25.out.below hb6.out)
    have B6 := Lib.hid (bl_tr B5.out hb6.out)
    clear R15 R25 B5 hb6
    go_wp2_with fail
    refine use_own (octInt_any _ _ HY.out) ?_
    intro v7 w7 hb7 ho7
    obtain ⟨A7, c7, rfl⟩ := ho7.out.form
    have R17 := Lib.hid (R16.out.below hb7.out)
    have R27 := Lib.hid (R26.out.below hb7.out)
    have B7 := Lib.hid (bl_tr B6.out hb7.out)
    have ho67 := Lib.hid (OwI.below ho6.out hb7.out)
    clear R16 R26 B6 hb7 ho6
    skip
    go_wp2_with fail
    refine use_b (octLeft p l 0 _ R17.out) ?_
    intro w8 hb8
    go_wp2_with fail
    refine use_b (octLeft q l 0 _ (R27.out.below hb8.out)) ?_
    intro w9 hb9
    have B9 := Lib.hid (bl_tr (bl_tr B7.out hb8.out) hb9.out)
    go_wp2_with fail
    refine use_b (same_any _ _ (l.take 0) (l.take 0) _ (HR2.out.below B9.out) (by exact RdS.nil _ _)) ?_
    rw [decide_eq_true rfl]
    intro w10 hb10
    go_wp2_with fail
    refine use_b (same_any _ _ (l.take 0) (l.take 0) _ (HR2.out.below (bl_tr B9.out hb10.out)) (by exact RdS.nil _ _)) ?_
    rw [decide_eq_true rfl]
    intro w11 hb11
    have B11 := Lib.hid (bl_tr (bl_tr B9.out hb10.out) hb11.out)
    (try have e3 := E3.out)
    (try have f3 := F3.out)
    go_wp2
    go_ret
    exact ⟨by first | rfl | (simp; done), B11.out⟩
end Go.Proofs.Ytehcimecmbcdfaa
