/- The walk of the law PackCut. -/
import Derived.Test.YtehcimecmbcdfaaXLaw19d
set_option linter.unusedSimpArgs false
set_option linter.unusedVariables false
namespace Go.Proofs.Ytehcimecmbcdfaa
open Go.RowKit

set_option maxRecDepth 20000 in
set_option maxHeartbeats 2000000 in
theorem wPackCut (f d : Int) (A : Option Addr) (c N : Nat) (l : List Ins) (out cut : Int) (vm : Value) (more : List Int) (w : World) (hr : RdN w A l) (hN : l.length = N) (hw : wfL l) (hmr : RdS w .u8 vm more) (hmb : Byt more) (hml : more.length ≤ 140737488351232) (hcut : In64 cut) :
    Calls Try.prog 14 #[.agg #[.int .i64 f, .int .i64 d, .slice A N c, .int .i64 out], .int .i64 cut, vm] w fun e w' => e = .returned (.bool true) ∧ Below w.heap.size w w' := by
  have HR := Lib.hid hr
  have HN := Lib.hid hN
  have HM := Lib.hid hmr
  have HE : Hid (∀ W, RdN W A l → Calls Try.prog 41 #[.agg #[.int .i64 f, .int .i64 d, .slice A N c, .int .i64 out]] W (OwnPost2 W 5 .u8 (encB f d l out) (CodErr (mayC f d l out)))) := fun W h => enc_any f d A c N l out W h hN hw
  obtain ⟨cu1, cu2⟩ := hcut
  cases hm : mayC f d l out with
  | false =>
    rw [hm] at HE
    clear hr hN hw hm hmr hmb
    go_enter Try.func14, Try.ntmps14
    go_wp2_with fail
    refine use_own2 (HE.out _ (HR.out.below (bl1 _))) ?_
    unfold CodErr
    intro v1 w1 hb1 ho1
    go_wp2_with fail
    refine use_b (awake19 _) ?_
    intro w2 hb2
    go_wp2_with fail
    refine use_b (awake19 _) ?_
    intro w3 hb3
    go_wp2
    go_ret
    exact ⟨by first | rfl | (simp; done), bl_tr (bl1 _) (bl_tr hb1.out (bl_tr hb2.out hb3.out))⟩
  | true =>
    rw [hm] at HE
    have e0 : encB f d l out = encC f d l out := by unfold encB; rw [hm]; rfl
    rw [e0] at HE
    obtain ⟨hl1, hl2⟩ := encC_len hm hw
    have HBY := Lib.hid (encC_byt hm hw)
    have HDT := Lib.hid (fun h => decC_tail hm more h)
    have HDC := Lib.hid (fun u v h1 h2 h3 => decC_cut hm u v h1 h2 h3)
    have HBA := Lib.hid (Byt.append HBY.out hmb)
    obtain ⟨bs, hbs⟩ : ∃ bs, encC f d l out = bs := ⟨_, rfl⟩
    rw [hbs] at HE HBY HDT HDC HBA hl1 hl2
    obtain ⟨L, hL⟩ : ∃ L, bs.length = L := ⟨_, rfl⟩
    rw [hL] at hl1 hl2
    obtain ⟨Am, cm, rfl, -⟩ := hmr
    obtain ⟨M, hM⟩ : ∃ M, more.length = M := ⟨_, rfl⟩
    rw [hM] at hml HM ⊢
    have HLL := Lib.hid hL
    have HMM := Lib.hid hM
    have hz01 : Hid (([] : List Int).length + bs.length = L) := Lib.hid (by rw [hL]; simp)
    have hz02 : Hid (bs.length + more.length = L + M) := Lib.hid (by rw [hL, hM])
    have hbd1 : Hid ((([] : List Int).length + bs.length) * 1 ≤ 140737488355328) := Lib.hid (by rw [hz01.out]; omega)
    have hbd2 : Hid ((bs.length + more.length) * 1 ≤ 140737488355328) := Lib.hid (by rw [hz02.out]; omega)
    clear hr hN hw hm e0 hbs hL hM hmb
    have hq : ∃ (cc : Cod) (x : Int), decC (bs ++ more) = (cc, x) ∧ ((M ≤ 0 ∧ (M == 0) = true ∧ ((M : Int) == 0) = true ∧ x = 0) ∨ (0 < M ∧ ((M == 0) = false ∧ ((M : Int) == 0) = false) ∧ 4096 < L + M ∧ x = 4) ∨ (0 < M ∧ ((M == 0) = false ∧ ((M : Int) == 0) = false) ∧ L + M ≤ 4096 ∧ x = 5)) := by
      by_cases h0 : 4096 < L + M
      · have : decC (bs ++ more) = (⟨0, 0, [], 0⟩, 4) := by unfold decC; rw [if_pos (by rw [List.length_append, HLL.out, HMM.out]; exact h0)]
        exact ⟨_, _, this, .inr (.inl ⟨by omega, ⟨by simpa using (by omega : ¬ M = 0), by simpa using (by omega : ¬ M = 0)⟩, h0, rfl⟩)⟩
      · have h1 := HDT.out (by rw [List.length_append, HLL.out, HMM.out]; omega)
        rw [HMM.out] at h1
        by_cases h2 : 0 < M
        · rw [if_pos h2] at h1; exact ⟨_, _, h1, .inr (.inr ⟨h2, ⟨by simpa using (by omega : ¬ M = 0), by simpa using (by omega : ¬ M = 0)⟩, by omega, rfl⟩)⟩
        · rw [if_neg h2] at h1; exact ⟨_, _, h1, .inl ⟨by omega, by simpa using (by omega : M = 0), by simpa using (by omega : M = 0), rfl⟩⟩
    obtain ⟨cc, x, hda, hx⟩ := hq
    have HDA := Lib.hid hda
    clear hda
    have hcs : (0 ≤ cut ∧ cut < (L : Int)) ∨ cut < 0 ∨ (0 ≤ cut ∧ (L : Int) ≤ cut) := by omega
    rcases hcs with ⟨k1, k2⟩ | k1 | ⟨k1, k2⟩
    · obtain ⟨k, rfl⟩ := Int.eq_ofNat_of_zero_le k1
      have k3 : k < L := by omega
      have HDK : Hid (decC (bs.take k) = (⟨0, 0, [], 0⟩, 2)) := Lib.hid (HDC.out (bs.take k) (bs.drop k) (List.take_append_drop _ _) (fun e => by have := congrArg List.length e; rw [List.length_drop, HLL.out] at this; simp at this; omega) (by rw [List.length_take, HLL.out]; omega))
      rcases hx with ⟨hM0, bm1, bm2, rfl⟩ | ⟨hM0, ⟨bm1, bm2⟩, hLM, rfl⟩ | ⟨hM0, ⟨bm1, bm2⟩, hLM, rfl⟩
      all_goals
        have Z0 := True.intro
        go_enter Try.func14, Try.ntmps14
        go_wp2_with fail
        refine use_own2 (HE.out _ (HR.out.below (bl1 _))) ?_
        unfold CodErr
        intro v1 w1 hb1 ho1
        have HO1 := Lib.hid ho1.out.rd
        obtain ⟨A1, c1, rfl, h1c, h1n, -⟩ := ho1.out.rd
        rw [HLL.out] at HO1 h1c ⊢
        go_wp2_with fail
        refine use_b (awake19 _) ?_
        intro w2 hb2
        have HB2 : Hid (Below (w.alloc (.cells #[.int .i64 f, .int .i64 d, .slice A N c, .int .i64 out] 64)).heap.size (w.alloc (.cells #[.int .i64 f, .int .i64 d, .slice A N c, .int .i64 out] 64)) w2) := bl_tr hb1.out hb2.out
        have HO2 := Lib.hid (HO1.out.below hb2.out)
        obtain ⟨i0, hi0, -, hz1, -⟩ := info_parts info_u8
        obtain ⟨A', c', hrun, hrd⟩ := cut_h 36 5 Try.underlying36 hi0 hz1 A1 c1 bs k (by rw [HLL.out]; omega) (by rw [HLL.out]; exact h1c) h1n
        rw [HLL.out] at hrun
        have HRD := Lib.hid hrd
        clear hrd
        go_wp2_with fail
        refine use_dec (by have := decode_any (.slice A' k c') (bs.take k) _ (HRD.out _ _ (by obtain ⟨a, b, e, -, -, h⟩ := HO2.out; injection e with e1; subst e1; exact h)) (HBY.out.take k); rw [HDK.out] at this; exact this) ?_
        intro A5 n5 c5 w5 hn5 hb5 ho5
        have HB5 : Hid (Below (w.alloc (.cells #[.int .i64 f, .int .i64 d, .slice A N c, .int .i64 out] 64)).heap.size (w.alloc (.cells #[.int .i64 f, .int .i64 d, .slice A N c, .int .i64 out] 64)) (w5.alloc (.cells #[.int .i64 0, .int .i64 0, .slice A5 n5 c5, .int .i64 0] 64))) := bl_tr HB2.out (bl_alloc hb5.out _)
        have HO5 := Lib.hid ((HO2.out.below hb5.out).below (bl1 (.cells #[.int .i64 0, .int .i64 0, .slice A5 n5 c5, .int .i64 0] 64)))
        go_upto_region 8 with (fail)
        generalize (w5.alloc (.cells #[.int .i64 0, .int .i64 0, .slice A5 n5 c5, .int .i64 0] 64)) = w6 at HB5 HO5 ⊢
        have hm1 := Lib.hid ((HM.out.below (bl_tr (bl1 _) HB5.out)).below (bl1 (.cells #[] 5)))
        have hbr := Lib.hid (HO5.out.below (bl1 (.cells #[] 5)))
        have HL0 : Hid (OwI (w6.alloc (.cells #[] 5)) w6.heap.size 5 .u8 (.slice (some ⟨w6.heap.size, 0, none⟩) 0 0) []) := OwI.lit (W := w6) (k := .u8) (E := 5) [] (Nat.le_refl _) (by simp)
        have hsz0 : Hid (w6.heap.size ≤ (w6.alloc (.cells #[] 5)).heap.size) := Lib.hid (by simp)
        go_wp2_with (first | (at_builtin; refine ap_row w6.heap.size rfl (.tmp 43) (.tmp 44) 36 5 .u8 1 rfl Try.underlying36 info_u8 (by decide) (.slice (some ⟨w6.heap.size, 0, none⟩) 0 0) [] (.slice A1 L c1) bs rfl rfl HL0.out hbr.out hsz0.out hbd1.out L hz01.out ?_; intro A8 c8 w8 hO8 hg8 hat8; have HB8 := Lib.hid (show Below w6.heap.size w6 w8 from (bl1 (.cells #[] 5)).grown hg8.out (by simp) (fun k hk => by simp [Value.ownBlock] at hk; omega)); have hm8 := Lib.hid (HM.out.below (bl_tr (bl1 _) (bl_tr HB5.out HB8.out)))) | (at_builtin; refine ap_row w6.heap.size rfl (.tmp 45) (.tmp 46) 36 5 .u8 1 rfl Try.underlying36 info_u8 (by decide) (.slice A8 L c8) bs (.slice Am M cm) more rfl rfl hO8.out hm8.out HB8.out.size hbd2.out (L + M) hz02.out ?_; intro A9 c9 w9 hO9 hg9 hat9; have HB9 := Lib.hid (bl_grown HB8.out hO8.out HB8.out.size hg9.out)))
        refine use_dec (by have := decode_any _ (bs ++ more) _ hO9.out.rd HBA.out; rw [HDA.out] at this; exact this) ?_
        intro A10 n10 c10 w10 hn10 hb10 ho10
        have HBZ := Lib.hid (bl_tr (bl1 (.cells #[.int .i64 f, .int .i64 d, .slice A N c, .int .i64 out] 64)) (bl_tr HB5.out (bl_tr HB9.out (bl_alloc hb10.out (.cells #[.int .i64 cc.f, .int .i64 cc.d, .slice A10 n10 c10, .int .i64 cc.out] 64)))))
        go_wp2
        go_ret
        exact ⟨by first | rfl | (simp; done), HBZ.out⟩
    · rcases hx with ⟨hM0, bm1, bm2, rfl⟩ | ⟨hM0, ⟨bm1, bm2⟩, hLM, rfl⟩ | ⟨hM0, ⟨bm1, bm2⟩, hLM, rfl⟩
      all_goals
        have Z0 := True.intro
        go_enter Try.func14, Try.ntmps14
        go_wp2_with fail
        refine use_own2 (HE.out _ (HR.out.below (bl1 _))) ?_
        unfold CodErr
        intro v1 w1 hb1 ho1
        have HO1 := Lib.hid ho1.out.rd
        obtain ⟨A1, c1, rfl, h1c, h1n, -⟩ := ho1.out.rd
        rw [HLL.out] at HO1 h1c ⊢
        go_wp2_with fail
        refine use_b (awake19 _) ?_
        intro w2 hb2
        have HB2 : Hid (Below (w.alloc (.cells #[.int .i64 f, .int .i64 d, .slice A N c, .int .i64 out] 64)).heap.size (w.alloc (.cells #[.int .i64 f, .int .i64 d, .slice A N c, .int .i64 out] 64)) w2) := bl_tr hb1.out hb2.out
        have HO2 := Lib.hid (HO1.out.below hb2.out)
        have hm1 := Lib.hid ((HM.out.below (bl_tr (bl1 _) HB2.out)).below (bl1 (.cells #[] 5)))
        have hbr := Lib.hid (HO2.out.below (bl1 (.cells #[] 5)))
        have HL0 : Hid (OwI (w2.alloc (.cells #[] 5)) w2.heap.size 5 .u8 (.slice (some ⟨w2.heap.size, 0, none⟩) 0 0) []) := OwI.lit (W := w2) (k := .u8) (E := 5) [] (Nat.le_refl _) (by simp)
        have hsz0 : Hid (w2.heap.size ≤ (w2.alloc (.cells #[] 5)).heap.size) := Lib.hid (by simp)
        go_wp2_with (first | (at_builtin; refine ap_row w2.heap.size rfl (.tmp 43) (.tmp 44) 36 5 .u8 1 rfl Try.underlying36 info_u8 (by decide) (.slice (some ⟨w2.heap.size, 0, none⟩) 0 0) [] (.slice A1 L c1) bs rfl rfl HL0.out hbr.out hsz0.out hbd1.out L hz01.out ?_; intro A8 c8 w8 hO8 hg8 hat8; have HB8 := Lib.hid (show Below w2.heap.size w2 w8 from (bl1 (.cells #[] 5)).grown hg8.out (by simp) (fun k hk => by simp [Value.ownBlock] at hk; omega)); have hm8 := Lib.hid (HM.out.below (bl_tr (bl1 _) (bl_tr HB2.out HB8.out)))) | (at_builtin; refine ap_row w2.heap.size rfl (.tmp 45) (.tmp 46) 36 5 .u8 1 rfl Try.underlying36 info_u8 (by decide) (.slice A8 L c8) bs (.slice Am M cm) more rfl rfl hO8.out hm8.out HB8.out.size hbd2.out (L + M) hz02.out ?_; intro A9 c9 w9 hO9 hg9 hat9; have HB9 := Lib.hid (bl_grown HB8.out hO8.out HB8.out.size hg9.out)))
        refine use_dec (by have := decode_any _ (bs ++ more) _ hO9.out.rd HBA.out; rw [HDA.out] at this; exact this) ?_
        intro A10 n10 c10 w10 hn10 hb10 ho10
        have HBZ := Lib.hid (bl_tr (bl1 (.cells #[.int .i64 f, .int .i64 d, .slice A N c, .int .i64 out] 64)) (bl_tr HB2.out (bl_tr HB9.out (bl_alloc hb10.out (.cells #[.int .i64 cc.f, .int .i64 cc.d, .slice A10 n10 c10, .int .i64 cc.out] 64)))))
        go_wp2
        go_ret
        exact ⟨by first | rfl | (simp; done), HBZ.out⟩
    · rcases hx with ⟨hM0, bm1, bm2, rfl⟩ | ⟨hM0, ⟨bm1, bm2⟩, hLM, rfl⟩ | ⟨hM0, ⟨bm1, bm2⟩, hLM, rfl⟩
      all_goals
        have Z0 := True.intro
        go_enter Try.func14, Try.ntmps14
        go_wp2_with fail
        refine use_own2 (HE.out _ (HR.out.below (bl1 _))) ?_
        unfold CodErr
        intro v1 w1 hb1 ho1
        have HO1 := Lib.hid ho1.out.rd
        obtain ⟨A1, c1, rfl, h1c, h1n, -⟩ := ho1.out.rd
        rw [HLL.out] at HO1 h1c ⊢
        go_wp2_with fail
        refine use_b (awake19 _) ?_
        intro w2 hb2
        have HB2 : Hid (Below (w.alloc (.cells #[.int .i64 f, .int .i64 d, .slice A N c, .int .i64 out] 64)).heap.size (w.alloc (.cells #[.int .i64 f, .int .i64 d, .slice A N c, .int .i64 out] 64)) w2) := bl_tr hb1.out hb2.out
        have HO2 := Lib.hid (HO1.out.below hb2.out)
        have hm1 := Lib.hid ((HM.out.below (bl_tr (bl1 _) HB2.out)).below (bl1 (.cells #[] 5)))
        have hbr := Lib.hid (HO2.out.below (bl1 (.cells #[] 5)))
        have HL0 : Hid (OwI (w2.alloc (.cells #[] 5)) w2.heap.size 5 .u8 (.slice (some ⟨w2.heap.size, 0, none⟩) 0 0) []) := OwI.lit (W := w2) (k := .u8) (E := 5) [] (Nat.le_refl _) (by simp)
        have hsz0 : Hid (w2.heap.size ≤ (w2.alloc (.cells #[] 5)).heap.size) := Lib.hid (by simp)
        go_wp2_with (first | (at_builtin; refine ap_row w2.heap.size rfl (.tmp 43) (.tmp 44) 36 5 .u8 1 rfl Try.underlying36 info_u8 (by decide) (.slice (some ⟨w2.heap.size, 0, none⟩) 0 0) [] (.slice A1 L c1) bs rfl rfl HL0.out hbr.out hsz0.out hbd1.out L hz01.out ?_; intro A8 c8 w8 hO8 hg8 hat8; have HB8 := Lib.hid (show Below w2.heap.size w2 w8 from (bl1 (.cells #[] 5)).grown hg8.out (by simp) (fun k hk => by simp [Value.ownBlock] at hk; omega)); have hm8 := Lib.hid (HM.out.below (bl_tr (bl1 _) (bl_tr HB2.out HB8.out)))) | (at_builtin; refine ap_row w2.heap.size rfl (.tmp 45) (.tmp 46) 36 5 .u8 1 rfl Try.underlying36 info_u8 (by decide) (.slice A8 L c8) bs (.slice Am M cm) more rfl rfl hO8.out hm8.out HB8.out.size hbd2.out (L + M) hz02.out ?_; intro A9 c9 w9 hO9 hg9 hat9; have HB9 := Lib.hid (bl_grown HB8.out hO8.out HB8.out.size hg9.out)))
        refine use_dec (by have := decode_any _ (bs ++ more) _ hO9.out.rd HBA.out; rw [HDA.out] at this; exact this) ?_
        intro A10 n10 c10 w10 hn10 hb10 ho10
        have HBZ := Lib.hid (bl_tr (bl1 (.cells #[.int .i64 f, .int .i64 d, .slice A N c, .int .i64 out] 64)) (bl_tr HB2.out (bl_tr HB9.out (bl_alloc hb10.out (.cells #[.int .i64 cc.f, .int .i64 cc.d, .slice A10 n10 c10, .int .i64 cc.out] 64)))))
        go_wp2
        go_ret
        exact ⟨by first | rfl | (simp; done), HBZ.out⟩
end Go.Proofs.Ytehcimecmbcdfaa
