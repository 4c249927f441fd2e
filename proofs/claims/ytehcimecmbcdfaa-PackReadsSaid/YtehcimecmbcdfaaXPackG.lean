/- Contract: the reference's bytes of a code (ref19.Encode). -/
import Derived.Test.YtehcimecmbcdfaaXPackF
set_option linter.unusedSimpArgs false
set_option linter.unusedVariables false
namespace Go.Proofs.Ytehcimecmbcdfaa
open Go.RowKit

set_option maxRecDepth 20000 in
set_option maxHeartbeats 1000000 in
theorem rEnc_yes (f d : Int) (A : Option Addr) (c N : Nat) (l : List Ins) (out : Int) (w : World) (hr : RdN w A l) (hN : l.length = N) (hw : wfL l) (hm : mayC f d l out = true) :
    Calls Try.prog 42 #[.agg #[.int .i64 f, .int .i64 d, .slice A N c, .int .i64 out]] w (OwnPost2 w 5 .u8 (encC f d l out) 0) := by
  obtain ⟨⟨hf, hd1, hd2⟩, h1, h2, h3, h4, hall⟩ := mayC_parts hm
  have hc := fun W h => Lib.hid (rMayC_any f d A c N l out W h hN hw)
  rw [hm] at hc
  rw [hN] at h1 h2 h4
  have HN := Lib.hid hN
  have HW := Lib.hid hw
  have HR := Lib.hid hr
  have HALL := Lib.hid (fun i hi => allMay_at hall i hi)
  have hE := Lib.hid (show encC f d l out = ([1, f, d] ++ natL (N : Int)) ++ encL l N ++ natL ((N : Int) - 1 - out) by unfold encC; rw [hN])
  have hf0 : 0 ≤ f := by omega
  have hf1 : f ≤ 1 := by omega
  have HLL := Lib.hid (encL_len (l := l) (N := N) (fun i hi => ⟨allMay_at hall i (by omega), (hw.at_ i (by omega)).k⟩) h2)
  clear hm hN hw hr hall hf
  have hl10 := Lib.hid (natL_len (n := (N : Int)) (by omega))
  have hi64 := Lib.hid (show I64 (N : Int) by unfold I64; omega)
  go_enter Try.func42, Try.ntmps42
  go_wp2_with (go_at_call 66; refine use_b (hc _ (HR.out.below (bl1 _))).out ?_; intro w1 hb1; have c0 : w1.cell? ⟨w.heap.size, 0, none⟩ = some (.int .i64 f) := keepc hb1 (blk_cell (blk_new w _) 0); have c1 : w1.cell? ⟨w.heap.size, 1, none⟩ = some (.int .i64 d) := keepc hb1 (blk_cell (blk_new w _) 1); have c2 : w1.cell? ⟨w.heap.size, 2, none⟩ = some (.slice A N c) := keepc hb1 (blk_cell (blk_new w _) 2); have hs1 : w.heap.size < w1.heap.size := (by have := hb1.out.size; simp at this; omega))
  refine use_own (rNatural_any _ _ hi64.out) ?_
  intro v2 w2 hb2 hv2
  have HB2 : Hid (Below (w.alloc (.cells #[.int .i64 f, .int .i64 d, .slice A N c, .int .i64 out] 64)).heap.size (w.alloc (.cells #[.int .i64 f, .int .i64 d, .slice A N c, .int .i64 out] 64)) w2) := bl_tr hb1.out (bl_tr (bl1 _) hb2.out)
  have HO2 : Hid (OwI w2 (w.heap.size + 1) 5 .u8 (.slice (some ⟨w1.heap.size, 0, none⟩) 3 3) [1, f, d]) := (OwI.lit (W := w1) (E := 5) (k := .u8) [1, f, d] (by omega) (by simp)).below hb2.out
  have hs2 : w.heap.size + 1 ≤ w2.heap.size := by have := HB2.out.size; simpa using this
  go_wp2_with (at_builtin; refine ap_row (w.heap.size + 1) rfl (.tmp 21) (.tmp 25) 36 5 .u8 1 rfl Try.underlying36 info_u8 (by decide) (.slice (some ⟨w1.heap.size, 0, none⟩) 3 3) [1, f, d] v2 (natL (N : Int)) rfl rfl HO2.out hv2.out.rd hs2 (by have := hl10.out; simp only [List.length_cons, List.length_nil]; omega) _ rfl ?_; intro A3 c3 w3 hO3 hg3 hat3)
  have HB3 := Lib.hid (show Below (w.alloc (.cells #[.int .i64 f, .int .i64 d, .slice A N c, .int .i64 out] 64)).heap.size (w.alloc (.cells #[.int .i64 f, .int .i64 d, .slice A N c, .int .i64 out] 64)) w3 from bl_grown HB2.out (by have := HO2.out; simpa using this) (by simpa using hs2) hg3.out)
  have hs3 : w.heap.size + 1 ≤ w3.heap.size := by have := HB3.out.size; simpa using this
  clear c0 c1 c2 hb1 hb2 hv2 HO2 hg3 hat3 hc
  go_loopw [4, 5, 6, 7, 8] (fun v4 i _ _ _ wr => EncRel (w.alloc (.cells #[.int .i64 f, .int .i64 d, .slice A N c, .int .i64 out] 64)) w N l ([1, f, d] ++ natL (N : Int)) v4 i wr) (fun _ i _ _ _ _ => N - (intOf i).toNat)
  case atStart => exact ⟨0, Nat.zero_le _, rfl, by have := hO3.out; simpa [encL] using this, HB3.out⟩
  case round =>
    obtain ⟨k, hk, rfl, ho, hb⟩ := hrel
    obtain ⟨wo, hwo⟩ : ∃ x, x = wr := ⟨_, rfl⟩
    subst hwo
    have HOk : Hid (OwI wo (w.heap.size + 1) 5 .u8 u4 (([1, f, d] ++ natL (N : Int)) ++ encL l k)) := by have := ho; simp only [World.size_alloc] at this; exact this
    have HBk := Lib.hid hb
    have hsk : w.heap.size + 1 ≤ wo.heap.size := by have := hb.size; simpa using this
    have d2 : wo.cell? ⟨w.heap.size, 2, none⟩ = some (.slice A N c) := keepc HBk (blk_cell (blk_new w _) 2)
    clear ho hb hO3 hl10
    by_cases hlt : k < N
    · have RK := Lib.hid ((HR.out.below (bl1 _)).below HBk.out)
      obtain ⟨ad, rfl, q0, q1, q2, q3, q4, q5⟩ := RK.out.at_ k (by rw [HN.out]; exact hlt)
      have hwf := Lib.hid (HW.out.at_ k (by rw [HN.out]; exact hlt))
      have hmk := Lib.hid (HALL.out k (by rw [HN.out]; exact hlt))
      have hsu := Lib.hid (encL_succ l k)
      have hle := HLL.out k hk
      obtain ⟨n, hn⟩ : ∃ n, l.getD k zIns = n := ⟨_, rfl⟩
      rw [hn] at q0 q1 q2 q3 q4 q5 hwf hmk hsu
      have HLE := Lib.hid hle
      clear hn hle
      obtain ⟨op, a, b, c', kk, s⟩ := n
      simp only at q0 q1 q2 q3 q4 q5
      obtain ⟨P, hP⟩ : ∃ P, ([1, f, d] ++ natL (N : Int)) ++ encL l k = P := ⟨_, rfl⟩
      have hPl : P.length ≤ 9000 := by
        rw [← hP]; have := HLE.out; have := natL_len (n := (N : Int)) (by omega); rw [List.length_append, List.length_append]; simp only [List.length_cons, List.length_nil]; omega
      rw [hP] at HOk
      have HP := Lib.hid hP
      clear hP
      obtain ⟨o1, o2, -⟩ := mayI_op hmk.out
      simp only at o1 o2
      have hargs : ∀ W : World, Hid (Calls Try.prog 68 #[Ins.val ⟨op, a, b, c', kk, s⟩] W (OwnPost W 3 .i64 (Ins.args ⟨op, a, b, c', kk, s⟩))) := fun W => Lib.hid (rArgs_any ⟨op, a, b, c', kk, s⟩ W)
      have HA := Lib.hid (mayI_args hmk.out)
      have hl3 := args_len ⟨op, a, b, c', kk, s⟩
      have hIK := Lib.hid (show encI k ⟨op, a, b, c', kk, s⟩ = [op] ++ (Ins.args ⟨op, a, b, c', kk, s⟩).flatMap (fun a => natL ((k : Int) - 1 - a)) ++ encT ⟨op, a, b, c', kk, s⟩ by unfold encI encA; simp)
      have K2 := Lib.hid (fun ho => mayI_k2 hmk.out ho)
      have K31 := Lib.hid (fun ho => mayI_k31 hmk.out ho)
      have K33 := Lib.hid (fun ho => mayI_k33 hmk.out ho)
      have HK := Lib.hid hwf.out.k
      obtain ⟨ags, hags⟩ : ∃ ags, Ins.args ⟨op, a, b, c', kk, s⟩ = ags := ⟨_, rfl⟩
      rw [hags] at HA hl3 hIK
      simp only [hags] at hargs
      have Hags := Lib.hid hags
      obtain ⟨et, het⟩ : ∃ et, encT ⟨op, a, b, c', kk, s⟩ = et := ⟨_, rfl⟩
      rw [het] at hIK
      have HE := Lib.hid het
      obtain ⟨L, hL⟩ : ∃ L, ags.length = L := ⟨_, rfl⟩
      rw [hL] at hl3
      have HL := Lib.hid hL
      simp only [Ins.val, Ins.cells] at hargs K2 K31 K33 HK
      clear hags het hL hwf
      have BLK1 : Hid ((wo.alloc (.cells (Ins.cells ⟨op, a, b, c', kk, s⟩) 92)).heap[wo.heap.size]? = some (.cells (Ins.cells ⟨op, a, b, c', kk, s⟩) 92 (0, 0))) := blk_new _ _
      have HOa := Lib.hid (HOk.out.below (bl1 (.cells (Ins.cells ⟨op, a, b, c', kk, s⟩) 92)))
      have hska : w.heap.size + 1 ≤ (wo.alloc (.cells (Ins.cells ⟨op, a, b, c', kk, s⟩) 92)).heap.size := by simp; omega
      go_wp2_with (at_builtin; refine ap_oneg (w.heap.size + 1) (wo.heap.size + 1) (by simp) rfl (.tmp 39) (.tmp 43) 36 5 .u8 1 rfl Try.underlying36 info_u8 (by decide) u4 P op rfl rfl HOa.out hska (by omega) _ rfl ?_; intro A5 c5 w5 hO5 hg5 hat5; have BLK5 := Lib.hid (blk_grown BLK1.out HOa.out (by decide) hg5.out); have p0 : w5.cell? ⟨wo.heap.size, 0, none⟩ = some (.int .i64 op) := blk_cell BLK5.out 0; have p1 : w5.cell? ⟨wo.heap.size, 1, none⟩ = some (.int .i64 a) := blk_cell BLK5.out 1; have p2 : w5.cell? ⟨wo.heap.size, 2, none⟩ = some (.int .i64 b) := blk_cell BLK5.out 2; have p3 : w5.cell? ⟨wo.heap.size, 3, none⟩ = some (.int .i64 c') := blk_cell BLK5.out 3; have p4 : w5.cell? ⟨wo.heap.size, 4, none⟩ = some (.int .i64 kk) := blk_cell BLK5.out 4; have p5 : w5.cell? ⟨wo.heap.size, 5, none⟩ = some (.int .i64 s) := blk_cell BLK5.out 5)
      refine use_own (hargs _).out ?_
      intro va w6 hb6 hva
      have HB5 := Lib.hid (show Below (w.alloc (.cells #[.int .i64 f, .int .i64 d, .slice (some ad) N c, .int .i64 out] 64)).heap.size (w.alloc (.cells #[.int .i64 f, .int .i64 d, .slice (some ad) N c, .int .i64 out] 64)) w5 from bl_grown (bl_alloc HBk.out (.cells (Ins.cells ⟨op, a, b, c', kk, s⟩) 92)) (by have := HOa.out; simpa using this) (by simp; omega) hg5.out)
      have HB6 := Lib.hid (bl_tr HB5.out hb6.out)
      have HO6 := Lib.hid (hO5.out.below hb6.out)
      have BLK6 := Lib.hid (blk_below BLK5.out hb6.out)
      have hva0 := Lib.hid (hva.out.lower (Nat.zero_le _))
      obtain ⟨Aa, ca, rfl⟩ := hva.out.form
      rw [HL.out] at hva0 ⊢
      clear p0 p1 p2 p3 p4 p5 q0 q1 q2 q3 q4 q5 hva hb6 hO5 hg5 hat5 BLK5 HB5 hargs BLK1 HOa hska d2
      go_wp2_with fail
      go_loopw [4, 8] (fun v4 x wr => InnRel (w.alloc (.cells #[.int .i64 f, .int .i64 d, .slice (some ad) N c, .int .i64 out] 64)) wo.heap.size ⟨op, a, b, c', kk, s⟩ (fun a => natL ((k : Int) - 1 - a)) (P ++ [op]) (.slice Aa L ca) ags v4 x wr) (fun _ x _ => L - (intOf x).toNat)
      case atStart => exact ⟨0, Nat.zero_le _, rfl, by have := HO6.out; simpa using this, hva0.out, BLK6.out, HB6.out⟩
      case round =>
        obtain ⟨j, hj, rfl, ho, hva, hblk, hb⟩ := hrel
        rw [HL.out] at hj
        have HVA := Lib.hid hva
        have rd := Lib.hid hva.rd
        have HOj : Hid (OwI wr (w.heap.size + 1) 5 .u8 u4 (P ++ [op] ++ (ags.take j).flatMap (fun a => natL ((k : Int) - 1 - a)))) := by have := ho; simp only [World.size_alloc] at this; exact this
        have HBj := Lib.hid hb
        have BLKj := Lib.hid hblk
        have hsj : w.heap.size + 1 ≤ wr.heap.size := by have := hb.size; simpa using this
        clear ho hva hblk hb HO6 hva0 BLK6 HB6
        by_cases hjl : j < L
        · obtain ⟨ad2, rfl, q⟩ := rd.out.at_ j (by rw [HL.out]; exact hjl)
          have hta := Lib.hid (flatMap_take_succ ags (fun a => natL ((k : Int) - 1 - a)) j (by rw [HL.out]; exact hjl))
          have hlen : (P ++ [op] ++ (ags.take j).flatMap (fun a => natL ((k : Int) - 1 - a))).length ≤ 9100 := by
            have h1 := flatMap_len (ags.take j) (fun a => natL ((k : Int) - 1 - a)) 10 (fun a ha => natL_len (by have := HA.out a (List.mem_of_mem_take ha); omega))
            rw [List.length_take] at h1
            rw [List.length_append, List.length_append]; simp only [List.length_cons, List.length_nil]; omega
          have hx := HA.out _ (getD_mem (by rw [HL.out]; exact hjl))
          obtain ⟨x, hxx⟩ : ∃ x, ags.getD j 0 = x := ⟨_, rfl⟩
          rw [hxx] at q hx hta
          have hx1 := hx.1
          have hx2 := hx.2
          have hi64 := Lib.hid (show I64 ((k : Int) - 1 - x) by unfold I64; omega)
          have hl10 := Lib.hid (natL_len (n := (k : Int) - 1 - x) (by omega))
          have HLEN := Lib.hid hlen
          clear hlen hxx hx
          go_wp2_with fail
          refine use_own (rNatural_any _ _ hi64.out) ?_
          intro v7 w7 hb7 hv7
          have HO7 := Lib.hid (HOj.out.below hb7.out)
          have HVA7 := Lib.hid (HVA.out.below hb7.out)
          have BLK7 := Lib.hid (blk_below BLKj.out hb7.out)
          have HB7 := Lib.hid (bl_tr HBj.out hb7.out)
          have hs7 : w.heap.size + 1 ≤ w7.heap.size := by have := HB7.out.size; simpa using this
          go_wp2_with (at_builtin; refine ap_row (w.heap.size + 1) rfl (.tmp 53) (.tmp 61) 36 5 .u8 1 rfl Try.underlying36 info_u8 (by decide) u4 (P ++ [op] ++ (ags.take j).flatMap (fun a => natL ((k : Int) - 1 - a))) v7 (natL ((k : Int) - 1 - x)) rfl rfl HO7.out hv7.out.rd hs7 (by have := HLEN.out; have := hl10.out; omega) _ rfl ?_; intro A8 c8 w8 hO8 hg8 hat8)
          go_roundw
          case measure => simp [intOf]; omega
          case rel =>
            refine ⟨j + 1, by rw [HL.out]; omega, by go_num, ?_, HVA7.out.grown HO7.out (by decide) hg8.out, blk_grown BLK7.out HO7.out (by decide) hg8.out, bl_grown HB7.out (by have := HO7.out; simpa using this) (by simpa using hs7) hg8.out⟩
            have := hO8.out
            rw [hta.out, ← List.append_assoc]
            simpa using this
        · obtain rfl : j = L := by omega
          have HQ : Hid (OwI wr (w.heap.size + 1) 5 .u8 u4 (P ++ ([op] ++ ags.flatMap (fun a => natL ((k : Int) - 1 - a))))) := by
            have := HOj.out
            rw [List.take_of_length_le (by rw [HL.out]; exact Nat.le_refl _), List.append_assoc] at this
            exact this
          have hlen : (P ++ ([op] ++ ags.flatMap (fun a => natL ((k : Int) - 1 - a)))).length ≤ 9100 := by
            have h1 := flatMap_len ags (fun a => natL ((k : Int) - 1 - a)) 10 (fun a ha => natL_len (by have := HA.out a ha; omega))
            rw [HL.out] at h1
            rw [List.length_append, List.length_append]; simp only [List.length_cons, List.length_nil]; omega
          obtain ⟨pre, hpre⟩ : ∃ pre, P ++ ([op] ++ ags.flatMap (fun a => natL ((k : Int) - 1 - a))) = pre := ⟨_, rfl⟩
          rw [hpre] at HQ hlen
          have HPRE := Lib.hid hpre
          have HLEN := Lib.hid hlen
          have p0 : wr.cell? ⟨wo.heap.size, 0, none⟩ = some (.int .i64 op) := blk_cell BLKj.out 0
          clear hpre hlen HOj HVA rd
          go_wp2_with fail
          refine use_b (how_any op _) ?_
          obtain ⟨hw2, hhw⟩ : ∃ x, howN op = x := ⟨_, rfl⟩
          rw [hhw]
          have HHW := Lib.hid hhw
          intro w7 hb7
          have BLK7 := Lib.hid (blk_below BLKj.out hb7.out)
          have HQ7 := Lib.hid (HQ.out.below hb7.out)
          have HB7 := Lib.hid (bl_tr HBj.out hb7.out)
          have hs7 : w.heap.size + 1 ≤ w7.heap.size := by have := HB7.out.size; simpa using this
          have p4 : w7.cell? ⟨wo.heap.size, 4, none⟩ = some (.int .i64 kk) := blk_cell BLK7.out 4
          have p5 : w7.cell? ⟨wo.heap.size, 5, none⟩ = some (.int .i64 s) := blk_cell BLK7.out 5
          clear hhw hb7 BLKj HQ HBj hsj p0
          by_cases g1 : op = 1 ∨ op = 32
          · obtain rfl : hw2 = 1 := by rw [← HHW.out]; unfold howN; first | rw [if_pos (by omega)] | rw [if_neg (by omega), if_pos (by omega)] | rw [if_neg (by omega), if_neg (by omega), if_pos (by omega)] | rw [if_neg (by omega), if_neg (by omega), if_neg (by omega), if_pos (by omega)]
            have e := Lib.hid (show et = vint (zig kk) by rw [← HE.out]; unfold encT; simp only; first | rw [if_pos (by omega)] | rw [if_neg (by omega), if_pos (by omega)] | rw [if_neg (by omega), if_neg (by omega), if_pos (by omega)] | rw [if_neg (by omega), if_neg (by omega), if_neg (by omega), if_pos (by omega)])
            have hl10 := Lib.hid (vint_len10 (zig_lt (n := kk) HK.out))
            go_wp2_with fail
            refine use_own (rInt_any kk _ HK.out) ?_
            intro v8 w8 hb8 hv8
            have HQ8 := Lib.hid (HQ7.out.below hb8.out)
            have HB8 := Lib.hid (bl_tr HB7.out hb8.out)
            have hs8 : w.heap.size + 1 ≤ w8.heap.size := by have := HB8.out.size; simpa using this
            go_wp2_with (at_builtin; refine ap_row (w.heap.size + 1) rfl (.tmp 68) (.tmp 71) 36 5 .u8 1 rfl Try.underlying36 info_u8 (by decide) u4 (pre) v8 (vint (zig kk)) rfl rfl HQ8.out hv8.out.rd hs8 (by have := HLEN.out; have := hl10.out; omega) _ rfl ?_; intro A9 c9 w9 hO9 hg9 hat9)
            go_roundw
            case measure => simp [intOf]; omega
            case rel =>
              refine ⟨k + 1, by omega, by go_num, ?_, bl_grown HB8.out (by have := HQ8.out; simpa using this) (by simpa using hs8) hg9.out⟩
              rw [hsu.out, ← List.append_assoc, HP.out, hIK.out, e.out, ← List.append_assoc, HPRE.out]
              simp only [World.size_alloc]
              exact hO9.out
          by_cases g2 : op = 2 ∨ op = 3 ∨ op = 29 ∨ op = 30
          · obtain rfl : hw2 = 2 := by rw [← HHW.out]; unfold howN; first | rw [if_pos (by omega)] | rw [if_neg (by omega), if_pos (by omega)] | rw [if_neg (by omega), if_neg (by omega), if_pos (by omega)] | rw [if_neg (by omega), if_neg (by omega), if_neg (by omega), if_pos (by omega)]
            have e := Lib.hid (show et = [kk] by rw [← HE.out]; unfold encT; simp only; first | rw [if_pos (by omega)] | rw [if_neg (by omega), if_pos (by omega)] | rw [if_neg (by omega), if_neg (by omega), if_pos (by omega)] | rw [if_neg (by omega), if_neg (by omega), if_neg (by omega), if_pos (by omega)])
            obtain ⟨m1, m2⟩ := K2.out (by omega)
            go_wp2_with (at_builtin; refine ap_one (w.heap.size + 1) rfl (.tmp 75) (.tmp 79) 36 5 .u8 1 rfl Try.underlying36 info_u8 (by decide) u4 pre kk rfl rfl HQ7.out hs7 (by have := HLEN.out; omega) _ rfl ?_; intro A9 c9 w9 hO9 hg9 hat9)
            go_roundw
            case measure => simp [intOf]; omega
            case rel =>
              refine ⟨k + 1, by omega, by go_num, ?_, bl_grown HB7.out (by have := HQ7.out; simpa using this) (by simpa using hs7) hg9.out⟩
              rw [hsu.out, ← List.append_assoc, HP.out, hIK.out, e.out, ← List.append_assoc, HPRE.out]
              simp only [World.size_alloc]
              exact hO9.out
          by_cases g31 : op = 31
          · obtain rfl : hw2 = 3 := by rw [← HHW.out]; unfold howN; first | rw [if_pos (by omega)] | rw [if_neg (by omega), if_pos (by omega)] | rw [if_neg (by omega), if_neg (by omega), if_pos (by omega)] | rw [if_neg (by omega), if_neg (by omega), if_neg (by omega), if_pos (by omega)]
            have e := Lib.hid (show et = natL kk by rw [← HE.out]; unfold encT; simp only; first | rw [if_pos (by omega)] | rw [if_neg (by omega), if_pos (by omega)] | rw [if_neg (by omega), if_neg (by omega), if_pos (by omega)] | rw [if_neg (by omega), if_neg (by omega), if_neg (by omega), if_pos (by omega)])
            obtain ⟨m1, m2⟩ := K31.out g31
            have hl10 := Lib.hid (natL_len (n := kk) (by omega))
            have hi64 := Lib.hid (show I64 kk by unfold I64; omega)
            go_wp2_with fail
            refine use_own (rNatural_any kk _ hi64.out) ?_
            intro v8 w8 hb8 hv8
            have HQ8 := Lib.hid (HQ7.out.below hb8.out)
            have HB8 := Lib.hid (bl_tr HB7.out hb8.out)
            have hs8 : w.heap.size + 1 ≤ w8.heap.size := by have := HB8.out.size; simpa using this
            go_wp2_with (at_builtin; refine ap_row (w.heap.size + 1) rfl (.tmp 83) (.tmp 86) 36 5 .u8 1 rfl Try.underlying36 info_u8 (by decide) u4 (pre) v8 (natL kk) rfl rfl HQ8.out hv8.out.rd hs8 (by have := HLEN.out; have := hl10.out; omega) _ rfl ?_; intro A9 c9 w9 hO9 hg9 hat9)
            go_roundw
            case measure => simp [intOf]; omega
            case rel =>
              refine ⟨k + 1, by omega, by go_num, ?_, bl_grown HB8.out (by have := HQ8.out; simpa using this) (by simpa using hs8) hg9.out⟩
              rw [hsu.out, ← List.append_assoc, HP.out, hIK.out, e.out, ← List.append_assoc, HPRE.out]
              simp only [World.size_alloc]
              exact hO9.out
          by_cases g33 : op = 33
          · obtain rfl : hw2 = 4 := by rw [← HHW.out]; unfold howN; first | rw [if_pos (by omega)] | rw [if_neg (by omega), if_pos (by omega)] | rw [if_neg (by omega), if_neg (by omega), if_pos (by omega)] | rw [if_neg (by omega), if_neg (by omega), if_neg (by omega), if_pos (by omega)]
            have e := Lib.hid (show et = natL kk ++ [s] by rw [← HE.out]; unfold encT; simp only; first | rw [if_pos (by omega)] | rw [if_neg (by omega), if_pos (by omega)] | rw [if_neg (by omega), if_neg (by omega), if_pos (by omega)] | rw [if_neg (by omega), if_neg (by omega), if_neg (by omega), if_pos (by omega)])
            obtain ⟨m1, m2, m3, m4⟩ := K33.out g33
            have hl10 := Lib.hid (natL_len (n := kk) (by omega))
            have hi64 := Lib.hid (show I64 kk by unfold I64; omega)
            go_wp2_with fail
            have hone := Lib.hid (show ([IntKind.u8.wrap s] : List Int).length ≤ 9223372036854775807 by simp)
            have hws := Lib.hid (show IntKind.u8.wrap s = s by have := K33.out g33; simp [IntKind.wrap, IntKind.bits, IntKind.signed]; omega)
            have KF : Hid (∀ {vx : Value} (W W1 : World) {j : Nat} {v : Value}, vx.ownBlock ≠ some wo.heap.size → W.cell? ⟨wo.heap.size, j, none⟩ = some v → W.grownBy W1 vx.ownBlock → W1.cell? ⟨wo.heap.size, j, none⟩ = some v) := fun W W1 j v hn hc hg => (World.cell?_of_block (hg.block _ (World.block_lt_of_cell? W _ hc) (fun e => hn e.symm))).trans hc
            go_region_held3 (fun w' => w'.cell? ⟨wo.heap.size, 4, none⟩ = some (.int .i64 kk) ∧ w'.cell? ⟨wo.heap.size, 5, none⟩ = some (.int .i64 s)) (first | go_keep | (go_split_ands; exact ⟨keepc hb8 (by assumption), keepc hb8 (by assumption)⟩) | (go_split_ands; exact ⟨KF.out _ _ (HQ7.out.ne BLK7.out (by decide)) (by assumption) hg9.out, KF.out _ _ (HQ7.out.ne BLK7.out (by decide)) (by assumption) hg9.out⟩) | (go_split_ands; exact ⟨KF.out _ _ (hO9.out.ne BLK9.out (by decide)) (by assumption) hg10.out, KF.out _ _ (hO9.out.ne BLK9.out (by decide)) (by assumption) hg10.out⟩)) (first | (go_at_call 67; refine use_own (rNatural_any kk _ hi64.out) ?_; intro v8 w8 hb8 hv8; have hs8 : w7.heap.size ≤ w8.heap.size := (show Below w7.heap.size w7 w8 from by repeat (first | exact Below.refl _ _ | apply bl_alloc | apply bl_drew | apply bl_drewN | (refine bl_tr' (by assumption) ?_))).size) | (refine step_ap_row (w.heap.size + 1) (by rfl) (.tmp 90) (.tmp 93) 36 5 .u8 1 (by rfl) Try.underlying36 info_u8 (by decide) u4 pre v8 (natL kk) (by rfl) (by rfl) (HQ7.out.below (by repeat (first | exact Below.refl _ _ | apply bl_alloc | apply bl_drew | apply bl_drewN | (refine bl_tr' (by assumption) ?_)))) (hv8.out.rd.below (by repeat (first | exact Below.refl _ _ | apply bl_alloc | apply bl_drew | apply bl_drewN | (refine bl_tr' (by assumption) ?_)))) (Nat.le_trans hs7 (show Below w7.heap.size w7 _ from by repeat (first | exact Below.refl _ _ | apply bl_alloc | apply bl_drew | apply bl_drewN | (refine bl_tr' (by assumption) ?_))).size) (by have := HLEN.out; have := hl10.out; omega) _ (by rfl) ?_; intro A9 c9 w9 hO9 hg9 hat9; have hs9 : w.heap.size + 1 ≤ w9.heap.size := Nat.le_trans (Nat.le_trans hs7 (show Below w7.heap.size w7 _ from by repeat (first | exact Below.refl _ _ | apply bl_alloc | apply bl_drew | apply bl_drewN | (refine bl_tr' (by assumption) ?_))).size) hg9.out.size; have HB9 : Hid (Below (w.alloc (.cells #[.int .i64 f, .int .i64 d, .slice (some ad) N c, .int .i64 out] 64)).heap.size (w.alloc (.cells #[.int .i64 f, .int .i64 d, .slice (some ad) N c, .int .i64 out] 64)) w9) := (by (refine bl_grown (bl_tr HB7.out ?_) (show OwI _ (w.alloc (.cells #[.int .i64 f, .int .i64 d, .slice (some ad) N c, .int .i64 out] 64)).heap.size 5 .u8 u4 pre by rw [World.size_alloc]; refine HQ7.out.below ?_; (repeat (first | exact Below.refl _ _ | apply bl_alloc | apply bl_drew | apply bl_drewN | (refine bl_tr' (by assumption) ?_)))) (show (w.alloc (.cells #[.int .i64 f, .int .i64 d, .slice (some ad) N c, .int .i64 out] 64)).heap.size ≤ _ by rw [World.size_alloc]; refine (Nat.le_trans hs7 (Below.size (B := w7.heap.size) (w := w7) ?_)); (repeat (first | exact Below.refl _ _ | apply bl_alloc | apply bl_drew | apply bl_drewN | (refine bl_tr' (by assumption) ?_)))) hg9.out) <;> (repeat (first | exact Below.refl _ _ | apply bl_alloc | apply bl_drew | apply bl_drewN | (refine bl_tr' (by assumption) ?_)))); have BLK9 := Lib.hid (blk_grown (blk_below BLK7.out (show Below w7.heap.size w7 _ from by repeat (first | exact Below.refl _ _ | apply bl_alloc | apply bl_drew | apply bl_drewN | (refine bl_tr' (by assumption) ?_)))) (HQ7.out.below (show Below w7.heap.size w7 _ from by repeat (first | exact Below.refl _ _ | apply bl_alloc | apply bl_drew | apply bl_drewN | (refine bl_tr' (by assumption) ?_)))) (by decide) hg9.out)) | (have hg3' := hg9; refine step_ap_row2 (w.heap.size + 1) (by rfl) (.tmp 94) (.tmp 98) 36 5 .u8 1 (by rfl) Try.underlying36 info_u8 (by decide) (pre ++ natL kk) [IntKind.u8.wrap s] (pre.length + (natL kk).length + 1) ?_ ?_ ?_ ?_ ?_ ?_; exact hO9.out.below (by repeat (first | exact Below.refl _ _ | apply bl_alloc | apply bl_drew | apply bl_drewN | (refine bl_tr' (by assumption) ?_))); (first | exact ((lit_rd (W := w9) (E := 5) [IntKind.u8.wrap s] hone.out).below (by repeat (first | exact Below.refl _ _ | apply bl_alloc | apply bl_drew | apply bl_drewN | (refine bl_tr' (by assumption) ?_)))) | exact (RdS.far_lit ((lit_rd (W := w8) (E := 5) [IntKind.u8.wrap s] hone.out).below (by repeat (first | exact Below.refl _ _ | apply bl_alloc | apply bl_drew | apply bl_drewN | (refine bl_tr' (by assumption) ?_)))) hg9.out HQ7.out hs8) | exact (RdS.far_lit ((lit_rd (W := w7) (E := 5) [IntKind.u8.wrap s] hone.out).below (by repeat (first | exact Below.refl _ _ | apply bl_alloc | apply bl_drew | apply bl_drewN | (refine bl_tr' (by assumption) ?_)))) hg9.out HQ7.out (Nat.le_refl _))); exact (Nat.le_trans hs9 (show Below w9.heap.size w9 _ from by repeat (first | exact Below.refl _ _ | apply bl_alloc | apply bl_drew | apply bl_drewN | (refine bl_tr' (by assumption) ?_))).size); (have := HLEN.out; have := hl10.out; rw [List.length_append]; simp only [List.length_cons, List.length_nil]; omega); (rw [List.length_append]; rfl); intro A10 c10 w10 hO10 hg10 hat10) | fail)
            all_goals
              go_wp2
              go_roundw
              case measure => simp [intOf]; omega
              case rel =>
                refine ⟨k + 1, by omega, by go_num, ?_, by (refine bl_grown (bl_tr HB9.out ?_) (show OwI _ (w.alloc (.cells #[.int .i64 f, .int .i64 d, .slice (some ad) N c, .int .i64 out] 64)).heap.size 5 .u8 _ (pre ++ natL kk) by rw [World.size_alloc]; refine hO9.out.below ?_; (repeat (first | exact Below.refl _ _ | apply bl_alloc | apply bl_drew | apply bl_drewN | (refine bl_tr' (by assumption) ?_)))) (show (w.alloc (.cells #[.int .i64 f, .int .i64 d, .slice (some ad) N c, .int .i64 out] 64)).heap.size ≤ _ by rw [World.size_alloc]; refine (Nat.le_trans hs9 (Below.size (B := w9.heap.size) (w := w9) ?_)); (repeat (first | exact Below.refl _ _ | apply bl_alloc | apply bl_drew | apply bl_drewN | (refine bl_tr' (by assumption) ?_)))) hg10.out) <;> (repeat (first | exact Below.refl _ _ | apply bl_alloc | apply bl_drew | apply bl_drewN | (refine bl_tr' (by assumption) ?_)))⟩
                rw [hsu.out, ← List.append_assoc, HP.out, hIK.out, e.out, ← List.append_assoc, HPRE.out, ← List.append_assoc]
                simp only [World.size_alloc]
                have h := hO10.out
                rw [hws.out] at h
                exact h
          obtain rfl : hw2 = 0 := by rw [← HHW.out]; unfold howN; rw [if_neg (by omega), if_neg (by omega), if_neg g31, if_neg g33]
          have e := Lib.hid (show et = [] by rw [← HE.out]; unfold encT; simp only; rw [if_neg (by omega), if_neg (by omega), if_neg g31, if_neg g33])
          clear g1 g2 g31 g33
          obtain ⟨A5, c5', rfl⟩ := HQ7.out.form
          go_wp2
          go_roundw
          case measure => simp [intOf]; omega
          case rel =>
            refine ⟨k + 1, by omega, by go_num, ?_, HB7.out⟩
            rw [hsu.out, ← List.append_assoc, HP.out, hIK.out, e.out, ← List.append_assoc, HPRE.out, List.append_nil]
            simp only [World.size_alloc]
            exact HQ7.out
    · obtain rfl : k = N := by omega
      have d2 : wo.cell? ⟨w.heap.size, 2, none⟩ = some (.slice A k c) := keepc HBk (blk_cell (blk_new w _) 2)
      have d3 : wo.cell? ⟨w.heap.size, 3, none⟩ = some (.int .i64 out) := keepc HBk (blk_cell (blk_new w _) 3)
      have hi := Lib.hid (show I64 ((k : Int) - 1 - out) by unfold I64; omega)
      have hl := Lib.hid (natL_len (n := (k : Int) - 1 - out) (by omega))
      have hl10 := Lib.hid (natL_len (n := (k : Int)) (by omega))
      have hle := HLL.out k (Nat.le_refl _)
      have HLE := Lib.hid hle
      clear hle
      go_wp2_with fail
      refine use_own (rNatural_any _ _ hi.out) ?_
      intro v4 w4 hb4 hv4
      have HB4 := Lib.hid (bl_tr HBk.out hb4.out)
      have HO4 := Lib.hid (HOk.out.below hb4.out)
      have hs40 : w.heap.size + 1 ≤ w4.heap.size := by have := HB4.out.size; simpa using this
      go_wp2_with (at_builtin; refine ap_row (w.heap.size + 1) rfl (.tmp 100) (.tmp 108) 36 5 .u8 1 rfl Try.underlying36 info_u8 (by decide) u4 (([1, f, d] ++ natL (k : Int)) ++ encL l k) v4 (natL ((k : Int) - 1 - out)) rfl rfl HO4.out hv4.out.rd hs40 (by have := HLE.out; have := hl.out; have := hl10.out; rw [List.length_append, List.length_append]; simp only [List.length_cons, List.length_nil]; omega) _ rfl ?_; intro A5 c5 w5 hO5 hg5 hat5)
      go_ret2
      refine ⟨_, rfl, ?_, bl_tr (bl1 _) (bl_grown HB4.out (by have := HO4.out; simpa using this) (by simpa using hs40) hg5.out)⟩
      rw [hE.out]
      have := hO5.out.lower (Nat.le_succ _)
      simpa using this
end Go.Proofs.Ytehcimecmbcdfaa
