/- The walk of the law PackReads. -/
import Derived.Test.YtehcimecmbcdfaaXDecR
import Derived.Test.YtehcimecmbcdfaaXApartN2
import Derived.Test.YtehcimecmbcdfaaXLaw19d
set_option linter.unusedSimpArgs false
set_option linter.unusedVariables false
namespace Go.Proofs.Ytehcimecmbcdfaa
open Go.RowKit

theorem use_roomyB {v : Value} {l : List Int} {w : World} {R : Ending → World → Prop} (h : RdS w .u8 v l) (hl : l.length ≤ 140737488354304)
    (k : ∀ g w1, Hid (Below w.heap.size w w1) → Hid (w.heap.size ≤ g) → Hid (Room w1 g l) → R (.returned (.slice (some ⟨g, 0, none⟩) l.length (l.length + 40))) w1) : Calls Try.prog 28 #[v] w R :=
  (roomy_any v l w h hl).mono fun e w1 ⟨g, he, h1, h2, h3⟩ => by
    subst he
    exact k g w1 h3 h1 h2
theorem decC_200 {l : List Int} (hb : Byt l) : (decC l).1.l.length ≤ 1000000 := by
  obtain ⟨⟨c, e⟩, hd⟩ : ∃ r, decC l = r := ⟨_, rfl⟩
  rw [hd]
  by_cases he : e = 0
  · subst he
    have := (mayC_parts (decC_one hb hd).1).2.2.1
    simp only; omega
  · rw [decC_err hd he]; simp
def ZrRel (w9 : World) (g n : Nat) (x : Value) (wr : World) : Prop :=
  ∃ k : Nat, k ≤ n ∧ x = .int .i64 k ∧ Kp (· = g) w9 wr ∧ ∃ cs, wr.heap[g]? = some (.cells cs 5 (0, 0)) ∧ cs.size = n + 40
set_option maxRecDepth 20000 in
set_option maxHeartbeats 4000000 in
theorem wPackReads (v : Value) (l : List Int) (w : World) (hr : RdS w .u8 v l) (hby : Byt l) (hlb : l.length ≤ 140737488354304) :
    Calls Try.prog 12 #[v] w fun e w' => e = .returned (.bool true) ∧ Below w.heap.size w w' := by
  have HR := Lib.hid hr
  have HLB := Lib.hid hlb
  have h200 := decC_200 hby
  obtain ⟨⟨⟨f, d, li, out⟩, x⟩, hd⟩ : ∃ r, decC l = r := ⟨_, rfl⟩
  rw [hd] at h200
  simp only at h200
  have H200 := Lib.hid h200
  have HD : Hid (∀ u W, RdS W .u8 u l → Calls Try.prog 45 #[u] W (DecPost W (⟨f, d, li, out⟩, x))) := fun u W h => by have := decode_any u l W h hby; rw [hd] at this; exact this
  have HQ : Hid (∀ u W, RdS W .u8 u l → Calls Try.prog 46 #[u] W (DecPost W (⟨f, d, li, out⟩, x))) := fun u W h => by have := rdecode_any u l W h hby; rw [hd] at this; exact this
  obtain ⟨N, hN⟩ : ∃ N, li.length = N := ⟨_, rfl⟩
  have HN := Lib.hid hN
  have HS : Hid (∀ A B c c' W, RdN W A li → RdN W B li → Calls Try.prog 47 #[.agg #[.int .i64 f, .int .i64 d, .slice A N c, .int .i64 out], .agg #[.int .i64 f, .int .i64 d, .slice B N c', .int .i64 out]] W fun e w' => e = .returned (.bool true) ∧ Below W.heap.size W w') := fun A B c c' W ha hb => by
    have := rsame_len f d A B c c' N li li out W ha hb HN.out HN.out
    rw [codEq_yes ⟨rfl, rfl, rfl, rfl⟩] at this
    exact this
  obtain ⟨A0, c0, hv, -, -, -⟩ := hr
  obtain ⟨n, hn⟩ : ∃ n, l.length = n := ⟨_, rfl⟩
  have HLN := Lib.hid hn
  rw [hn] at hv
  subst hv
  have hx : (x != x) = false := by simp
  have hk := eq_kind
  clear hlb hby hd h200 hN hn
  go_enter Try.func12, Try.ntmps12
  go_wp2_with fail
  refine use_roomyB HR.out HLB.out ?_
  rw [HLN.out]
  intro g w1 hb1 hg1 hm1
  have hgw := hg1.out
  have HR1 := Lib.hid (HR.out.below hb1.out)
  have HM1 : Hid (RdS w1 .u8 (.slice (some ⟨g, 0, none⟩) n (n + 40)) l) := Lib.hid (by have := hm1.out.rd (by have := HLB.out; omega); rw [HLN.out] at this; exact this)
  go_wp2_with fail
  refine use_dec (HD.out _ _ HM1.out) ?_
  simp only
  intro A4 n4 c4 w2 hn4 hb2 ho4
  obtain rfl : n4 = N := by rw [hn4.out]; exact HN.out
  obtain ⟨p4, hp4⟩ : ∃ p, w2.heap.size = p := ⟨_, rfl⟩
  have HT4 : Hid ((w2.alloc (.cells #[.int .i64 f, .int .i64 d, .slice A4 n4 c4, .int .i64 out] 64)).heap[p4]? = some (.cells #[.int .i64 f, .int .i64 d, .slice A4 n4 c4, .int .i64 out] 64 (0, 0))) := Lib.hid (by rw [← hp4]; exact blk_new w2 _)
  have hp4w : w.heap.size ≤ p4 := by have h1 := hb1.out.size; have h2 := hb2.out.size; omega
  have HB2 := Lib.hid (bl_alloc (bl_tr hb1.out hb2.out) (.cells #[.int .i64 f, .int .i64 d, .slice A4 n4 c4, .int .i64 out] 64))
  have HO4 := Lib.hid (ho4.out.below (bl1 (.cells #[.int .i64 f, .int .i64 d, .slice A4 n4 c4, .int .i64 out] 64)))
  have HM2 := Lib.hid ((hm1.out.below hb2.out).below (bl1 (.cells #[.int .i64 f, .int .i64 d, .slice A4 n4 c4, .int .i64 out] 64)))
  have H4lt : Hid (∀ b, (Value.slice A4 n4 c4).ownBlock = some b → b < p4) := Lib.hid (fun b hb => by have := (ho4.out.blockGe b hb).2; omega)
  have hps2 : p4 < (w2.alloc (.cells #[.int .i64 f, .int .i64 d, .slice A4 n4 c4, .int .i64 out] 64)).heap.size := blk_lt HT4.out
  have HPp4 := Lib.hid hp4
  clear hp4
  go_upto_region 3 with fail
  rw [HPp4.out]
  generalize (w2.alloc (.cells #[.int .i64 f, .int .i64 d, .slice A4 n4 c4, .int .i64 out] 64)) = w3 at HT4 HB2 HO4 HM2 hps2 ⊢
  clear hn4 hb2 ho4 hm1 HM1 HR1
  go_wp2_with fail
  refine use_dec (HQ.out _ _ (HR.out.below HB2.out)) ?_
  simp only
  intro A6 n6 c6 w4 hn6 hb4 ho6
  obtain rfl : n6 = n4 := by rw [hn6.out]; exact HN.out
  obtain ⟨p6, hp6⟩ : ∃ p, w4.heap.size = p := ⟨_, rfl⟩
  have HT6 : Hid ((w4.alloc (.cells #[.int .i64 f, .int .i64 d, .slice A6 n6 c6, .int .i64 out] 64)).heap[p6]? = some (.cells #[.int .i64 f, .int .i64 d, .slice A6 n6 c6, .int .i64 out] 64 (0, 0))) := Lib.hid (by rw [← hp6]; exact blk_new w4 _)
  have HB4 := Lib.hid (bl_alloc (bl_tr HB2.out hb4.out) (.cells #[.int .i64 f, .int .i64 d, .slice A6 n6 c6, .int .i64 out] 64))
  have HO6 := Lib.hid (ho6.out.below (bl1 (.cells #[.int .i64 f, .int .i64 d, .slice A6 n6 c6, .int .i64 out] 64)))
  have HO4 := Lib.hid ((HO4.out.below hb4.out).below (bl1 (.cells #[.int .i64 f, .int .i64 d, .slice A6 n6 c6, .int .i64 out] 64)))
  have HT4 := Lib.hid (blk_below (blk_below HT4.out hb4.out) (bl1 (.cells #[.int .i64 f, .int .i64 d, .slice A6 n6 c6, .int .i64 out] 64)))
  have HM4 := Lib.hid ((HM2.out.below hb4.out).below (bl1 (.cells #[.int .i64 f, .int .i64 d, .slice A6 n6 c6, .int .i64 out] 64)))
  have hps4 : p4 < (w4.alloc (.cells #[.int .i64 f, .int .i64 d, .slice A6 n6 c6, .int .i64 out] 64)).heap.size := blk_lt HT4.out
  have HPp6 := Lib.hid hp6
  clear hp6
  go_upto_region 4 with fail
  rw [HPp6.out]
  generalize (w4.alloc (.cells #[.int .i64 f, .int .i64 d, .slice A6 n6 c6, .int .i64 out] 64)) = w5 at HT4 HT6 HB4 HO4 HO6 HM4 hps4 ⊢
  clear hn6 hb4 ho6 HM2 HB2 hps2
  have HM5 : Hid (RdS w5 .u8 (.slice (some ⟨g, 0, none⟩) n (n + 40)) l) := Lib.hid (by have := HM4.out.rd (by have := HLB.out; omega); rw [HLN.out] at this; exact this)
  go_wp2_with fail
  refine use_dec (HD.out _ _ HM5.out) ?_
  simp only
  intro A8 n8 c8 w6 hn8 hb6 ho8
  obtain rfl : n8 = n6 := by rw [hn8.out]; exact HN.out
  obtain ⟨p8, hp8⟩ : ∃ p, w6.heap.size = p := ⟨_, rfl⟩
  have HT8 : Hid ((w6.alloc (.cells #[.int .i64 f, .int .i64 d, .slice A8 n8 c8, .int .i64 out] 64)).heap[p8]? = some (.cells #[.int .i64 f, .int .i64 d, .slice A8 n8 c8, .int .i64 out] 64 (0, 0))) := Lib.hid (by rw [← hp8]; exact blk_new w6 _)
  have HB6 := Lib.hid (bl_alloc (bl_tr HB4.out hb6.out) (.cells #[.int .i64 f, .int .i64 d, .slice A8 n8 c8, .int .i64 out] 64))
  have H8ge : Hid (∀ b, (Value.slice A8 n8 c8).ownBlock = some b → p4 < b) := Lib.hid (fun b hb => by have := (ho8.out.blockGe b hb).1; omega)
  have HO8 := Lib.hid (ho8.out.below (bl1 (.cells #[.int .i64 f, .int .i64 d, .slice A8 n8 c8, .int .i64 out] 64)))
  have HO6 := Lib.hid ((HO6.out.below hb6.out).below (bl1 (.cells #[.int .i64 f, .int .i64 d, .slice A8 n8 c8, .int .i64 out] 64)))
  have HO4 := Lib.hid ((HO4.out.below hb6.out).below (bl1 (.cells #[.int .i64 f, .int .i64 d, .slice A8 n8 c8, .int .i64 out] 64)))
  have HT4 := Lib.hid (blk_below (blk_below HT4.out hb6.out) (bl1 (.cells #[.int .i64 f, .int .i64 d, .slice A8 n8 c8, .int .i64 out] 64)))
  have HT6 := Lib.hid (blk_below (blk_below HT6.out hb6.out) (bl1 (.cells #[.int .i64 f, .int .i64 d, .slice A8 n8 c8, .int .i64 out] 64)))
  have HM6 := Lib.hid ((HM4.out.below hb6.out).below (bl1 (.cells #[.int .i64 f, .int .i64 d, .slice A8 n8 c8, .int .i64 out] 64)))
  have HPp8 := Lib.hid hp8
  clear hp8
  go_upto_region 5 with fail
  rw [HPp8.out]
  generalize (w6.alloc (.cells #[.int .i64 f, .int .i64 d, .slice A8 n8 c8, .int .i64 out] 64)) = w7 at HT4 HT6 HT8 HB6 HO4 HO6 HO8 HM6 ⊢
  clear hn8 hb6 ho8 HM4 HM5 HB4
  go_wp2_with fail
  refine use_b (awake19 _) ?_
  intro w8 hb8
  have HT4 := Lib.hid (blk_below HT4.out hb8.out)
  have HT6 := Lib.hid (blk_below HT6.out hb8.out)
  have HT8 := Lib.hid (blk_below HT8.out hb8.out)
  have HO4 := Lib.hid (HO4.out.below hb8.out)
  have HO6 := Lib.hid (HO6.out.below hb8.out)
  have HO8 := Lib.hid (HO8.out.below hb8.out)
  have HB6 := Lib.hid (bl_tr HB6.out hb8.out)
  have HM6 := Lib.hid (HM6.out.below hb8.out)
  clear hb8
  have q0 : w8.cell? ⟨p4, 0, none⟩ = some (.int .i64 f) := blk_cell HT4.out 0
  have q1 : w8.cell? ⟨p4, 1, none⟩ = some (.int .i64 d) := blk_cell HT4.out 1
  have q2 : w8.cell? ⟨p4, 2, none⟩ = some (.slice A4 n8 c4) := blk_cell HT4.out 2
  have q3 : w8.cell? ⟨p4, 3, none⟩ = some (.int .i64 out) := blk_cell HT4.out 3
  have r0 : w8.cell? ⟨p6, 0, none⟩ = some (.int .i64 f) := blk_cell HT6.out 0
  have r1 : w8.cell? ⟨p6, 1, none⟩ = some (.int .i64 d) := blk_cell HT6.out 1
  have r2 : w8.cell? ⟨p6, 2, none⟩ = some (.slice A6 n8 c6) := blk_cell HT6.out 2
  have r3 : w8.cell? ⟨p6, 3, none⟩ = some (.int .i64 out) := blk_cell HT6.out 3
  go_wp2_with fail
  refine use_b (HS.out A4 A6 c4 c6 _ HO4.out.rd.rdN HO6.out.rd.rdN) ?_
  clear q0 q1 q2 q3 r0 r1 r2 r3
  intro w9 hb9
  have HT4 := Lib.hid (blk_below HT4.out hb9.out)
  have HT6 := Lib.hid (blk_below HT6.out hb9.out)
  have HT8 := Lib.hid (blk_below HT8.out hb9.out)
  have HO4 := Lib.hid (HO4.out.below hb9.out)
  have HO6 := Lib.hid (HO6.out.below hb9.out)
  have HO8 := Lib.hid (HO8.out.below hb9.out)
  have HB6 := Lib.hid (bl_tr HB6.out hb9.out)
  have HM6 := Lib.hid (HM6.out.below hb9.out)
  clear hb9
  have q0 : w9.cell? ⟨p8, 0, none⟩ = some (.int .i64 f) := blk_cell HT8.out 0
  have q1 : w9.cell? ⟨p8, 1, none⟩ = some (.int .i64 d) := blk_cell HT8.out 1
  have q2 : w9.cell? ⟨p8, 2, none⟩ = some (.slice A8 n8 c8) := blk_cell HT8.out 2
  have q3 : w9.cell? ⟨p8, 3, none⟩ = some (.int .i64 out) := blk_cell HT8.out 3
  have r0 : w9.cell? ⟨p6, 0, none⟩ = some (.int .i64 f) := blk_cell HT6.out 0
  have r1 : w9.cell? ⟨p6, 1, none⟩ = some (.int .i64 d) := blk_cell HT6.out 1
  have r2 : w9.cell? ⟨p6, 2, none⟩ = some (.slice A6 n8 c6) := blk_cell HT6.out 2
  have r3 : w9.cell? ⟨p6, 3, none⟩ = some (.int .i64 out) := blk_cell HT6.out 3
  go_wp2_with fail
  refine use_b (HS.out A8 A6 c8 c6 _ HO8.out.rd.rdN HO6.out.rd.rdN) ?_
  clear q0 q1 q2 q3 r0 r1 r2 r3
  intro w10 hb10
  have HT4 := Lib.hid (blk_below HT4.out hb10.out)
  have HT6 := Lib.hid (blk_below HT6.out hb10.out)
  have HT8 := Lib.hid (blk_below HT8.out hb10.out)
  have HO4 := Lib.hid (HO4.out.below hb10.out)
  have HO6 := Lib.hid (HO6.out.below hb10.out)
  have HO8 := Lib.hid (HO8.out.below hb10.out)
  have HB6 := Lib.hid (bl_tr HB6.out hb10.out)
  have HM6 := Lib.hid (HM6.out.below hb10.out)
  clear hb10
  have HH : Hid (Calls Try.prog 30 #[.slice (some ⟨g, 0, none⟩) n (n + 40), .slice A0 n c0] w10 fun e w' => e = .returned (.bool true) ∧ Below w10.heap.size w10 w') := Lib.hid (by
    have := held_any g l (.slice A0 n c0) w10 HM6.out (HR.out.below HB6.out) HLB.out
    rw [HLN.out] at this
    exact this)
  go_wp2_with fail
  refine use_b HH.out ?_
  clear HH
  intro w11 hb11
  have HT4 := Lib.hid (blk_below HT4.out hb11.out)
  have HT6 := Lib.hid (blk_below HT6.out hb11.out)
  have HT8 := Lib.hid (blk_below HT8.out hb11.out)
  have HO4 := Lib.hid (HO4.out.below hb11.out)
  have HO6 := Lib.hid (HO6.out.below hb11.out)
  have HO8 := Lib.hid (HO8.out.below hb11.out)
  have HB6 := Lib.hid (bl_tr HB6.out hb11.out)
  have HM6 := Lib.hid (HM6.out.below hb11.out)
  clear hb11
  have hcs : Hid (((l ++ mark 40).map (Value.int .u8)).toArray.size = n + 40) := Lib.hid (by have := HLN.out; simp [mark, this])
  go_wp2_with fail
  go_loopw [10] (fun i wr => ZrRel w11 g n i wr) (fun i _ => n - (intOf i).toNat)
  case atStart => exact ⟨0, Nat.zero_le _, rfl, Kp.refl _ _, _, HM6.out, hcs.out⟩
  case round =>
    obtain ⟨k, hk1, rfl, hkp, cs, hcs1, hcs2⟩ := hrel
    have HKP := Lib.hid hkp
    have HCS := Lib.hid hcs1
    have HC2 := Lib.hid hcs2
    clear hkp hcs hcs2
    have hnb : n ≤ 140737488354304 := by have := HLB.out; rw [HLN.out] at this; exact this
    by_cases hlt : k < n
    · have x0 : wr.cell? ⟨g, k, none⟩ = some (cs[k]'(by have := HC2.out; omega)) := by
        have := blk_cell hcs1 k
        rw [this, Array.getElem?_eq_getElem]
      have y0 : wr.frozen? ⟨g, k, none⟩ = false := blk_frozen hcs1 k
      clear hcs1
      go_wp2
      go_roundw
      case measure => simp [intOf]; omega
      case rel => exact ⟨k + 1, by omega, by go_num, HKP.out.set rfl _, _, blk_set HCS.out k _, by rw [Array.size_setIfInBounds]; exact HC2.out⟩
    · have HT4 := Lib.hid (HKP.out.blk (blk_ne HT4.out HM6.out (by decide)) HT4.out)
      have HT6 := Lib.hid (HKP.out.blk (blk_ne HT6.out HM6.out (by decide)) HT6.out)
      have HT8 := Lib.hid (HKP.out.blk (blk_ne HT8.out HM6.out (by decide)) HT8.out)
      have HO4 := Lib.hid (HO4.out.kp HKP.out (fun b hb e => HO4.out.ne HM6.out (by decide) (by rw [hb, e])))
      have HO6 := Lib.hid (HO6.out.kp HKP.out (fun b hb e => HO6.out.ne HM6.out (by decide) (by rw [hb, e])))
      have HO8 := Lib.hid (HO8.out.kp HKP.out (fun b hb e => HO8.out.ne HM6.out (by decide) (by rw [hb, e])))
      have HB6 := Lib.hid (bl_kp HB6.out HKP.out (fun k hk => by omega))
      clear HKP HCS HC2 hcs1
      have q0 : wr.cell? ⟨p4, 0, none⟩ = some (.int .i64 f) := blk_cell HT4.out 0
      have q1 : wr.cell? ⟨p4, 1, none⟩ = some (.int .i64 d) := blk_cell HT4.out 1
      have q2 : wr.cell? ⟨p4, 2, none⟩ = some (.slice A4 n8 c4) := blk_cell HT4.out 2
      have q3 : wr.cell? ⟨p4, 3, none⟩ = some (.int .i64 out) := blk_cell HT4.out 3
      have r0 : wr.cell? ⟨p6, 0, none⟩ = some (.int .i64 f) := blk_cell HT6.out 0
      have r1 : wr.cell? ⟨p6, 1, none⟩ = some (.int .i64 d) := blk_cell HT6.out 1
      have r2 : wr.cell? ⟨p6, 2, none⟩ = some (.slice A6 n8 c6) := blk_cell HT6.out 2
      have r3 : wr.cell? ⟨p6, 3, none⟩ = some (.int .i64 out) := blk_cell HT6.out 3
      go_wp2_with fail
      refine use_b (HS.out A4 A6 c4 c6 _ HO4.out.rd.rdN HO6.out.rd.rdN) ?_
      clear q0 q1 q2 q3 r0 r1 r2 r3
      intro w12 hb12
      have HT4 := Lib.hid (blk_below HT4.out hb12.out)
      have HT6 := Lib.hid (blk_below HT6.out hb12.out)
      have HT8 := Lib.hid (blk_below HT8.out hb12.out)
      have HO4 := Lib.hid (HO4.out.below hb12.out)
      have HO6 := Lib.hid (HO6.out.below hb12.out)
      have HO8 := Lib.hid (HO8.out.below hb12.out)
      have HB6 := Lib.hid (bl_tr HB6.out hb12.out)
      clear hb12
      have q0 : w12.cell? ⟨p4, 0, none⟩ = some (.int .i64 f) := blk_cell HT4.out 0
      have q1 : w12.cell? ⟨p4, 1, none⟩ = some (.int .i64 d) := blk_cell HT4.out 1
      have q2 : w12.cell? ⟨p4, 2, none⟩ = some (.slice A4 n8 c4) := blk_cell HT4.out 2
      have q3 : w12.cell? ⟨p4, 3, none⟩ = some (.int .i64 out) := blk_cell HT4.out 3
      have r0 : w12.cell? ⟨p8, 0, none⟩ = some (.int .i64 f) := blk_cell HT8.out 0
      have r1 : w12.cell? ⟨p8, 1, none⟩ = some (.int .i64 d) := blk_cell HT8.out 1
      have r2 : w12.cell? ⟨p8, 2, none⟩ = some (.slice A8 n8 c8) := blk_cell HT8.out 2
      have r3 : w12.cell? ⟨p8, 3, none⟩ = some (.int .i64 out) := blk_cell HT8.out 3
      have HX : Hid ((w12.alloc (.cells #[.int .i64 f, .int .i64 d, .slice A4 n8 c4, .int .i64 out, .int .i64 f, .int .i64 d, .slice A8 n8 c8, .int .i64 out] 64)).heap[w12.heap.size]? = some (.cells #[.int .i64 f, .int .i64 d, .slice A4 n8 c4, .int .i64 out, .int .i64 f, .int .i64 d, .slice A8 n8 c8, .int .i64 out] 64 (0, 0))) := blk_new w12 _
      have HA := Lib.hid (apartN_two ((HO4.out.lower (Nat.zero_le _)).below (bl1 _)) ((HO8.out.lower (Nat.zero_le _)).below (bl1 _)) H200.out H200.out (fun b h1 h2 => by have h3 := H4lt.out b h1; have h4 := H8ge.out b h2; omega) HX.out)
      go_wp2_with fail
      refine use_kp HA.out ?_
      intro w13 hk13
      go_wp2
      go_ret
      have hw1 := hb1.out.size
      refine ⟨by first | rfl | (simp; done), bl_kp (bl_tr HB6.out (bl1 _)) hk13.out (fun b hb => ?_)⟩
      rcases hb with hb | hb
      · have := (HO4.out.blockGe b hb).1; omega
      · have := (HO8.out.blockGe b hb).1; have := H8ge.out b hb; omega
end Go.Proofs.Ytehcimecmbcdfaa
