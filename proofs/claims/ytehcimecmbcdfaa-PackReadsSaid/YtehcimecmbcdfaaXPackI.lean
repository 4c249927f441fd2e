/- Contracts: an instruction's bytes (pack.natural, pack.inst). -/
import Derived.Test.YtehcimecmbcdfaaXPackS
set_option linter.unusedSimpArgs false
set_option linter.unusedVariables false
namespace Go.Proofs.Ytehcimecmbcdfaa
open Go.RowKit

set_option maxHeartbeats 400000 in
theorem natural_any (n : Int) (w : World) (h : I64 n) :
    Calls Try.prog 64 #[.int .i64 n] w (OwnPost w 5 .u8 (natL n)) := by
  obtain ⟨h1, h2⟩ := h
  by_cases h0 : n < 0
  · have e := Lib.hid (show natL n = [] by unfold natL; rw [if_pos h0])
    go_enter Try.func64, Try.ntmps64
    go_wp2_with (go_at_call 22; refine use_b (octUint_no n _ h0) ?_; intro w1 hb1)
    go_ret
    exact ⟨_, rfl, by rw [e.out]; exact OwI.nil _ _ _ _, hb1.out⟩
  · obtain ⟨m, rfl⟩ := Int.eq_ofNat_of_zero_le (show 0 ≤ n by omega)
    have e := Lib.hid (natL_nat m)
    go_enter Try.func64, Try.ntmps64
    go_wp2_with (go_at_call 22; refine use_own2 (octUint_yes m _ (by omega)) ?_; intro v1 w1 hb1 ho1)
    go_ret
    exact ⟨_, rfl, by rw [e.out]; exact ho1.out, hb1.out⟩
def InstRel (W0 : World) (g : Int → List Int) (pre : List Int) (va : Value) (ags : List Int) (v5 x : Value) (wr : World) : Prop :=
  ∃ k : Nat, k ≤ ags.length ∧ x = .int .i64 k ∧ OwI wr W0.heap.size 5 .u8 v5 (pre ++ (ags.take k).flatMap g) ∧ OwI wr 0 3 .i64 va ags ∧ Below W0.heap.size W0 wr
set_option maxRecDepth 20000 in
set_option maxHeartbeats 1000000 in
theorem inst_any (i : Nat) (n : Ins) (w : World) (hm : mayI n i = true) (hi : i ≤ 200) (hw : n.wf) :
    Calls Try.prog 65 #[.int .i64 i, n.val] w (OwnPost w 5 .u8 (encI i n)) := by
  have HO := Lib.hid (mayI_op hm)
  have HA := Lib.hid (mayI_args hm)
  have K2 := Lib.hid (fun ho => mayI_k2 hm ho)
  have K31 := Lib.hid (fun ho => mayI_k31 hm ho)
  have K33 := Lib.hid (fun ho => mayI_k33 hm ho)
  have hI := Lib.hid (show encI i n = [n.op] ++ n.args.flatMap (fun a => natL ((i : Int) - 1 - a)) ++ encT n by unfold encI encA; simp)
  have hl3 := args_len n
  have HW := Lib.hid hw.k
  clear hm hw
  obtain ⟨ags, hags⟩ : ∃ ags, n.args = ags := ⟨_, rfl⟩
  rw [hags] at HA hI hl3
  have Hags := Lib.hid hags
  clear hags
  obtain ⟨et, het⟩ : ∃ et, encT n = et := ⟨_, rfl⟩
  rw [het] at hI
  have HE := Lib.hid het
  clear het
  have hargs : ∀ W : World, Hid (Calls Try.prog 84 #[n.val] W (OwnPost W 3 .i64 ags)) := fun W => by have h := args_any n W; rw [Hags.out] at h; exact Lib.hid h
  obtain ⟨op, a, b, c, kk, s⟩ := n
  simp only [Ins.val, Ins.cells] at hargs K2 K31 K33 HO HW hI ⊢
  have ho1 := HO.out.1
  have ho2 := HO.out.2.1
  go_enter Try.func65, Try.ntmps65
  go_wp2_with fail
  refine use_own (hargs _).out ?_
  intro va w1 hb1 hva
  have Hop := Lib.hid (OwI.below (OwI.lit (W := w.alloc (.cells (Ins.cells ⟨op, a, b, c, kk, s⟩) 92)) (E := 5) (base := (w.alloc (.cells (Ins.cells ⟨op, a, b, c, kk, s⟩) 92)).heap.size) (k := .u8) [op] (Nat.le_refl _) (by simp)) hb1.out)
  have HB1 := Lib.hid (bl_tr (bl1 (w := w.alloc (.cells (Ins.cells ⟨op, a, b, c, kk, s⟩) 92)) (.cells #[.int .u8 op] 5)) hb1.out)
  have hva0 := Lib.hid (hva.out.lower (Nat.zero_le _))
  obtain ⟨Aa, ca, rfl, hca, hca2, hra⟩ := hva.out.rd
  obtain ⟨L, hL⟩ : ∃ L, ags.length = L := ⟨_, rfl⟩
  rw [hL] at hva0 hl3
  have HL := Lib.hid hL
  clear hca hca2 hra hva hb1 hL
  go_wp2_with fail
  rw [HL.out]
  go_loopw [5, 7, 15] (fun v5 _ x wr => InstRel (w.alloc (.cells (Ins.cells ⟨op, a, b, c, kk, s⟩) 92)) (fun a => natL ((i : Int) - 1 - a)) [op] (.slice Aa L ca) ags v5 x wr) (fun _ _ x _ => L - (intOf x).toNat)
  case atStart => exact ⟨0, Nat.zero_le _, rfl, by simpa using Hop.out, hva0.out, HB1.out⟩
  case round =>
    obtain ⟨k, hk, rfl, ho, hva, hb⟩ := hrel
    rw [HL.out] at hk
    have HVA := Lib.hid hva
    have HOo := Lib.hid ho
    have HB := Lib.hid hb
    have hgs := hb.size
    have rd := Lib.hid hva.rd
    clear ho hva hb Hop HB1 hva0
    by_cases hlt : k < L
    · obtain ⟨ad, rfl, q⟩ := rd.out.at_ k (by rw [HL.out]; exact hlt)
      have hta := Lib.hid (flatMap_take_succ ags (fun a => natL ((i : Int) - 1 - a)) k (by rw [HL.out]; exact hlt))
      have hlen : ([op] ++ (ags.take k).flatMap (fun a => natL ((i : Int) - 1 - a))).length ≤ 100 := by
        have h1 := flatMap_len (ags.take k) (fun a => natL ((i : Int) - 1 - a)) 10 (fun a ha => natL_len (by have := HA.out a (List.mem_of_mem_take ha); omega))
        rw [List.length_take] at h1
        rw [List.length_append]; simp only [List.length_cons, List.length_nil]; omega
      have hx := HA.out _ (getD_mem (by rw [HL.out]; exact hlt))
      obtain ⟨x, hxx⟩ : ∃ x, ags.getD k 0 = x := ⟨_, rfl⟩
      rw [hxx] at q hx hta
      have hx1 := hx.1
      have hx2 := hx.2
      have hi64 := Lib.hid (show I64 ((i : Int) - 1 - x) by unfold I64; omega)
      have hl10 := Lib.hid (natL_len (n := (i : Int) - 1 - x) (by omega))
      have HLEN := Lib.hid hlen
      clear hlen hxx hx
      go_wp2_with fail
      refine use_own (natural_any _ _ hi64.out) ?_
      intro v2 w2 hb2 hv2
      have HO2 := Lib.hid (HOo.out.below hb2.out)
      have HVA2 := Lib.hid (HVA.out.below hb2.out)
      have HB2 := Lib.hid (bl_tr HB.out hb2.out)
      have hs2 := HB2.out.size
      clear HOo HVA HB rd
      go_wp2_with (at_builtin; refine ap_row (w.heap.size + 1) rfl (.tmp 19) (.tmp 24) 36 5 .u8 1 rfl Try.underlying36 info_u8 (by decide) u5 ([op] ++ (ags.take k).flatMap (fun a => natL ((i : Int) - 1 - a))) v2 (natL ((i : Int) - 1 - x)) rfl rfl (by have := HO2.out; simp at this; exact this) hv2.out.rd (by simpa using hs2) (by have := HLEN.out; have := hl10.out; omega) _ rfl ?_; intro A3 c3 w3 hO3 hg3 hat3)
      go_roundw
      case measure => simp [intOf]; omega
      case rel =>
        refine ⟨k + 1, by rw [HL.out]; omega, by go_num, ?_, HVA2.out.grown HO2.out (by decide) hg3.out, bl_grown HB2.out HO2.out hs2 hg3.out⟩
        have := hO3.out
        rw [hta.out, ← List.append_assoc]
        simpa using this
    · have hk2 : k = L := by omega
      subst hk2
      have HP := Lib.hid (show OwI wr w.heap.size 5 .u8 u5 ([op] ++ ags.flatMap (fun a => natL ((i : Int) - 1 - a))) by
        have := HOo.out
        rw [List.take_of_length_le (by rw [HL.out]; exact Nat.le_refl _)] at this
        exact this.lower (by simp))
      have HQ := Lib.hid (show OwI wr (w.heap.size + 1) 5 .u8 u5 ([op] ++ ags.flatMap (fun a => natL ((i : Int) - 1 - a))) by
        have := HOo.out
        rw [List.take_of_length_le (by rw [HL.out]; exact Nat.le_refl _)] at this
        exact this.lower (by simp))
      have hsw1 : w.heap.size + 1 ≤ wr.heap.size := by have := HB.out.size; simpa using this
      have KF : Hid (∀ {Wx : World} {vx : Value} {lx : List Int} (W W1 : World) {j : Nat} {v : Value}, OwI Wx (w.heap.size + 1) 5 .u8 vx lx → W.cell? ⟨w.heap.size, j, none⟩ = some v → W.grownBy W1 vx.ownBlock → W1.cell? ⟨w.heap.size, j, none⟩ = some v) := fun W W1 j v ho hc hg =>
        (World.cell?_of_block (hg.block _ (World.block_lt_of_cell? W _ hc) (fun e => by have := (ho.blockGe _ e.symm).1; simp at this; omega))).trans hc
      have hlen : ([op] ++ ags.flatMap (fun a => natL ((i : Int) - 1 - a))).length ≤ 100 := by
        have h1 := flatMap_len ags (fun a => natL ((i : Int) - 1 - a)) 10 (fun a ha => natL_len (by have := HA.out a ha; omega))
        rw [HL.out] at h1
        rw [List.length_append]; simp only [List.length_cons, List.length_nil]; omega
      obtain ⟨pre, hpre⟩ : ∃ pre, [op] ++ ags.flatMap (fun a => natL ((i : Int) - 1 - a)) = pre := ⟨_, rfl⟩
      rw [hpre] at HP HQ hlen hI
      have HLEN := Lib.hid hlen
      have c0 : wr.cell? ⟨w.heap.size, 0, none⟩ = some (.int .i64 op) := keepc HB (blk_cell (blk_new w _) 0)
      have c4 : wr.cell? ⟨w.heap.size, 4, none⟩ = some (.int .i64 kk) := keepc HB (blk_cell (blk_new w _) 4)
      have c5 : wr.cell? ⟨w.heap.size, 5, none⟩ = some (.int .i64 s) := keepc HB (blk_cell (blk_new w _) 5)
      have HBW := Lib.hid (bl_tr (bl1 _) HB.out)
      have hsw := HBW.out.size
      clear hpre hlen HOo HVA HB rd hgs
      by_cases g1 : op = 1
      · subst g1
        have e := Lib.hid (show et = vint (zig kk) by rw [← HE.out]; unfold encT; simp)
        have hl10 := Lib.hid (vint_len10 (zig_lt (n := kk) HW.out))
        go_wp2_with fail
        refine use_own (octInt_any kk _ HW.out) ?_
        intro v2 w2 hb2 hv2
        have HP2 := Lib.hid (HP.out.below hb2.out)
        have HB2 := Lib.hid (bl_tr HBW.out hb2.out)
        have hs2 := HB2.out.size
        go_wp2_with (at_builtin; refine ap_row w.heap.size rfl (.tmp 32) (.tmp 35) 36 5 .u8 1 rfl Try.underlying36 info_u8 (by decide) u5 pre v2 (vint (zig kk)) rfl rfl HP2.out hv2.out.rd hs2 (by have := HLEN.out; have := hl10.out; omega) _ rfl ?_; intro A3 c3 w3 hO3 hg3 hat3)
        go_ret
        exact ⟨_, rfl, by rw [hI.out, e.out]; exact hO3.out, bl_grown HB2.out HP2.out hs2 hg3.out⟩
      by_cases g32 : op = 32
      · subst g32
        have e := Lib.hid (show et = vint (zig kk) by rw [← HE.out]; unfold encT; simp)
        have hl10 := Lib.hid (vint_len10 (zig_lt (n := kk) HW.out))
        go_wp2_with fail
        refine use_own (octInt_any kk _ HW.out) ?_
        intro v2 w2 hb2 hv2
        have HP2 := Lib.hid (HP.out.below hb2.out)
        have HB2 := Lib.hid (bl_tr HBW.out hb2.out)
        have hs2 := HB2.out.size
        go_wp2_with (at_builtin; refine ap_row w.heap.size rfl (.tmp 32) (.tmp 35) 36 5 .u8 1 rfl Try.underlying36 info_u8 (by decide) u5 pre v2 (vint (zig kk)) rfl rfl HP2.out hv2.out.rd hs2 (by have := HLEN.out; have := hl10.out; omega) _ rfl ?_; intro A3 c3 w3 hO3 hg3 hat3)
        go_ret
        exact ⟨_, rfl, by rw [hI.out, e.out]; exact hO3.out, bl_grown HB2.out HP2.out hs2 hg3.out⟩
      by_cases g2 : op = 2
      · subst g2
        have e := Lib.hid (show et = [kk] by rw [← HE.out]; unfold encT; simp)
        obtain ⟨m1, m2⟩ := K2.out (by omega)
        go_wp2_with (at_builtin; refine ap_one w.heap.size rfl (.tmp 42) (.tmp 46) 36 5 .u8 1 rfl Try.underlying36 info_u8 (by decide) u5 pre kk rfl rfl HP.out hsw (by have := HLEN.out; omega) _ rfl ?_; intro A3 c3 w3 hO3 hg3 hat3)
        go_ret
        exact ⟨_, rfl, by rw [hI.out, e.out]; exact hO3.out, bl_grown HBW.out HP.out hsw hg3.out⟩
      by_cases g3 : op = 3
      · subst g3
        have e := Lib.hid (show et = [kk] by rw [← HE.out]; unfold encT; simp)
        obtain ⟨m1, m2⟩ := K2.out (by omega)
        go_wp2_with (at_builtin; refine ap_one w.heap.size rfl (.tmp 42) (.tmp 46) 36 5 .u8 1 rfl Try.underlying36 info_u8 (by decide) u5 pre kk rfl rfl HP.out hsw (by have := HLEN.out; omega) _ rfl ?_; intro A3 c3 w3 hO3 hg3 hat3)
        go_ret
        exact ⟨_, rfl, by rw [hI.out, e.out]; exact hO3.out, bl_grown HBW.out HP.out hsw hg3.out⟩
      by_cases g29 : op = 29
      · subst g29
        have e := Lib.hid (show et = [kk] by rw [← HE.out]; unfold encT; simp)
        obtain ⟨m1, m2⟩ := K2.out (by omega)
        go_wp2_with (at_builtin; refine ap_one w.heap.size rfl (.tmp 42) (.tmp 46) 36 5 .u8 1 rfl Try.underlying36 info_u8 (by decide) u5 pre kk rfl rfl HP.out hsw (by have := HLEN.out; omega) _ rfl ?_; intro A3 c3 w3 hO3 hg3 hat3)
        go_ret
        exact ⟨_, rfl, by rw [hI.out, e.out]; exact hO3.out, bl_grown HBW.out HP.out hsw hg3.out⟩
      by_cases g30 : op = 30
      · subst g30
        have e := Lib.hid (show et = [kk] by rw [← HE.out]; unfold encT; simp)
        obtain ⟨m1, m2⟩ := K2.out (by omega)
        go_wp2_with (at_builtin; refine ap_one w.heap.size rfl (.tmp 42) (.tmp 46) 36 5 .u8 1 rfl Try.underlying36 info_u8 (by decide) u5 pre kk rfl rfl HP.out hsw (by have := HLEN.out; omega) _ rfl ?_; intro A3 c3 w3 hO3 hg3 hat3)
        go_ret
        exact ⟨_, rfl, by rw [hI.out, e.out]; exact hO3.out, bl_grown HBW.out HP.out hsw hg3.out⟩
      by_cases g31 : op = 31
      · subst g31
        have e := Lib.hid (show et = natL kk by rw [← HE.out]; unfold encT; simp)
        obtain ⟨m1, m2⟩ := K31.out rfl
        have hl10 := Lib.hid (natL_len (n := kk) (by omega))
        have hi64 := Lib.hid (show I64 kk by unfold I64; omega)
        go_wp2_with fail
        refine use_own (natural_any kk _ hi64.out) ?_
        intro v2 w2 hb2 hv2
        have HP2 := Lib.hid (HP.out.below hb2.out)
        have HB2 := Lib.hid (bl_tr HBW.out hb2.out)
        have hs2 := HB2.out.size
        go_wp2_with (at_builtin; refine ap_row w.heap.size rfl (.tmp 50) (.tmp 53) 36 5 .u8 1 rfl Try.underlying36 info_u8 (by decide) u5 pre v2 (natL kk) rfl rfl HP2.out hv2.out.rd hs2 (by have := HLEN.out; have := hl10.out; omega) _ rfl ?_; intro A3 c3 w3 hO3 hg3 hat3)
        go_ret
        exact ⟨_, rfl, by rw [hI.out, e.out]; exact hO3.out, bl_grown HB2.out HP2.out hs2 hg3.out⟩
      by_cases g33 : op = 33
      · subst g33
        have hone := Lib.hid (show ([IntKind.u8.wrap s] : List Int).length ≤ 9223372036854775807 by simp)
        have hws := Lib.hid (show IntKind.u8.wrap s = s by have := K33.out rfl; simp [IntKind.wrap, IntKind.bits, IntKind.signed]; omega)
        have e := Lib.hid (show et = natL kk ++ [s] by rw [← HE.out]; unfold encT; simp)
        obtain ⟨m1, m2, m3, m4⟩ := K33.out rfl
        have hl10 := Lib.hid (natL_len (n := kk) (by omega))
        have hi64 := Lib.hid (show I64 kk by unfold I64; omega)
        go_wp2_with fail
        go_region_held3 (fun w' => w'.cell? ⟨w.heap.size, 4, none⟩ = some (.int .i64 kk) ∧ w'.cell? ⟨w.heap.size, 5, none⟩ = some (.int .i64 s)) (first | go_keep | (go_split_ands; exact ⟨keepc hb2 (by assumption), keepc hb2 (by assumption)⟩) | (go_split_ands; exact ⟨KF.out _ _ HQ.out (by assumption) hg3.out, KF.out _ _ HQ.out (by assumption) hg3.out⟩) | (go_split_ands; exact ⟨KF.out _ _ hO3.out (by assumption) hg4.out, KF.out _ _ hO3.out (by assumption) hg4.out⟩)) (first | (go_at_call 64; refine use_own (natural_any kk _ hi64.out) ?_; intro v2 w2 hb2 hv2; have hs2 : wr.heap.size ≤ w2.heap.size := (show Below wr.heap.size wr w2 from by repeat (first | exact Below.refl _ _ | apply bl_alloc | apply bl_drew | apply bl_drewN | (refine bl_tr' (by assumption) ?_))).size) | (refine step_ap_row (w.heap.size + 1) (by rfl) (.tmp 57) (.tmp 60) 36 5 .u8 1 (by rfl) Try.underlying36 info_u8 (by decide) u5 pre v2 (natL kk) (by rfl) (by rfl) (HQ.out.below (by repeat (first | exact Below.refl _ _ | apply bl_alloc | apply bl_drew | apply bl_drewN | (refine bl_tr' (by assumption) ?_)))) (hv2.out.rd.below (by repeat (first | exact Below.refl _ _ | apply bl_alloc | apply bl_drew | apply bl_drewN | (refine bl_tr' (by assumption) ?_)))) (Nat.le_trans hsw1 (show Below wr.heap.size wr _ from by repeat (first | exact Below.refl _ _ | apply bl_alloc | apply bl_drew | apply bl_drewN | (refine bl_tr' (by assumption) ?_))).size) (by have := HLEN.out; have := hl10.out; omega) _ (by rfl) ?_; intro A3 c3 w3 hO3 hg3 hat3; have hs3 : w.heap.size + 1 ≤ w3.heap.size := Nat.le_trans (Nat.le_trans hsw1 (show Below wr.heap.size wr _ from by repeat (first | exact Below.refl _ _ | apply bl_alloc | apply bl_drew | apply bl_drewN | (refine bl_tr' (by assumption) ?_))).size) hg3.out.size; have HB3 : Hid (Below w.heap.size w w3) := (by (refine bl_grown (bl_tr HBW.out ?_) ((HQ.out.below ?_).lower (Nat.le_succ _)) (Nat.le_trans hsw (Below.size (B := wr.heap.size) (w := wr) ?_)) hg3.out) <;> (repeat (first | exact Below.refl _ _ | apply bl_alloc | apply bl_drew | apply bl_drewN | (refine bl_tr' (by assumption) ?_))))) | (have hg3' := hg3; refine step_ap_row2 (w.heap.size + 1) (by rfl) (.tmp 61) (.tmp 65) 36 5 .u8 1 (by rfl) Try.underlying36 info_u8 (by decide) (pre ++ natL kk) [IntKind.u8.wrap s] (pre.length + (natL kk).length + 1) ?_ ?_ ?_ ?_ ?_ ?_; exact hO3.out.below (by repeat (first | exact Below.refl _ _ | apply bl_alloc | apply bl_drew | apply bl_drewN | (refine bl_tr' (by assumption) ?_))); (first | exact ((lit_rd (W := w3) (E := 5) [IntKind.u8.wrap s] hone.out).below (by repeat (first | exact Below.refl _ _ | apply bl_alloc | apply bl_drew | apply bl_drewN | (refine bl_tr' (by assumption) ?_)))) | exact (RdS.far_lit ((lit_rd (W := w2) (E := 5) [IntKind.u8.wrap s] hone.out).below (by repeat (first | exact Below.refl _ _ | apply bl_alloc | apply bl_drew | apply bl_drewN | (refine bl_tr' (by assumption) ?_)))) hg3.out HQ.out hs2) | exact (RdS.far_lit ((lit_rd (W := wr) (E := 5) [IntKind.u8.wrap s] hone.out).below (by repeat (first | exact Below.refl _ _ | apply bl_alloc | apply bl_drew | apply bl_drewN | (refine bl_tr' (by assumption) ?_)))) hg3.out HQ.out (Nat.le_refl _))); exact (Nat.le_trans hs3 (show Below w3.heap.size w3 _ from by repeat (first | exact Below.refl _ _ | apply bl_alloc | apply bl_drew | apply bl_drewN | (refine bl_tr' (by assumption) ?_))).size); (have := HLEN.out; have := hl10.out; rw [List.length_append]; simp only [List.length_cons, List.length_nil]; omega); (rw [List.length_append]; rfl); intro A4 c4' w4 hO4 hg4 hat4) | fail)
        all_goals
          go_wp2
          go_ret
          exact ⟨_, rfl, by rw [hI.out, e.out, ← List.append_assoc]; have := hO4.out; rw [hws.out] at this; exact this.lower (Nat.le_succ _), by (refine bl_grown (bl_tr HB3.out ?_) ((hO3.out.below ?_).lower (Nat.le_succ _)) (Nat.le_trans (Nat.le_of_succ_le hs3) (Below.size (B := w3.heap.size) (w := w3) ?_)) hg4.out) <;> (repeat (first | exact Below.refl _ _ | apply bl_alloc | apply bl_drew | apply bl_drewN | (refine bl_tr' (by assumption) ?_)))⟩
      have e := Lib.hid (show et = [] by rw [← HE.out]; unfold encT; simp only; rw [if_neg (by omega), if_neg (by omega), if_neg g31, if_neg g33])
      have b1 : (op == 1) = false := by rw [beq_eq_false_iff_ne]; exact g1
      have b32 : (op == 32) = false := by rw [beq_eq_false_iff_ne]; exact g32
      have b2 : (op == 2) = false := by rw [beq_eq_false_iff_ne]; exact g2
      have b3 : (op == 3) = false := by rw [beq_eq_false_iff_ne]; exact g3
      have b29 : (op == 29) = false := by rw [beq_eq_false_iff_ne]; exact g29
      have b30 : (op == 30) = false := by rw [beq_eq_false_iff_ne]; exact g30
      have b31 : (op == 31) = false := by rw [beq_eq_false_iff_ne]; exact g31
      have b33 : (op == 33) = false := by rw [beq_eq_false_iff_ne]; exact g33
      clear g1 g32 g2 g3 g29 g30 g31 g33
      obtain ⟨A5, c5', rfl⟩ := HP.out.form
      go_wp2
      go_ret
      exact ⟨_, rfl, by rw [hI.out, e.out, List.append_nil]; exact HP.out, HBW.out⟩
end Go.Proofs.Ytehcimecmbcdfaa
