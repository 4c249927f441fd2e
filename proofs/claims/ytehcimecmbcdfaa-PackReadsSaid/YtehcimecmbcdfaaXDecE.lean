/- Contract: the code of bytes (pack.Decode). -/
import Derived.Test.YtehcimecmbcdfaaXDecD
import Derived.Deep.CutBlock
set_option linter.unusedSimpArgs false
set_option linter.unusedVariables false
namespace Go.Proofs.Ytehcimecmbcdfaa
open Go.RowKit

theorem dec_tail {l : List Int} {o : Int} {τ : Tk} (hl : l.length ≤ 4096) (h7 : d7 l = (o, τ)) (he : τ.e = 0) (ht : 0 < τ.t.length) : decC l = (⟨0, 0, [], 0⟩, 5) := by
  have h8 : d8 l = 5 := by unfold d8; rw [h7, if_pos he, if_pos ht]
  have h9 : d9 l = 5 := by unfold d9; rw [h8]; rfl
  unfold decC
  rw [if_neg (by omega), h9]; rfl
theorem dec_fin {l : List Int} {f d o : Int} {τ3 τ4 τ6 τ : Tk} {acc : List Ins} (hl : l.length ≤ 4096) (h2 : d2 l = (f, τ3)) (h3 : d3 l = (d, τ4)) (h6 : d6 l = (acc, τ6)) (h7 : d7 l = (o, τ)) (he : τ.e = 0) (ht : ¬ 0 < τ.t.length) (hm : mayC f d acc o = true) : decC l = (⟨f, d, acc, o⟩, 0) := by
  have h8 : d8 l = 0 := by unfold d8; rw [h7, if_pos he, if_neg ht]
  have h9 : d9 l = 0 := by unfold d9; rw [h8, if_pos rfl, h2, h3, h6, h7]; simp only; rw [hm]; rfl
  unfold decC
  rw [if_neg (by omega), h9, if_pos rfl, h2, h3, h6, h7]
theorem dec_bad {l : List Int} {f d o : Int} {τ3 τ4 τ6 τ : Tk} {acc : List Ins} (hl : l.length ≤ 4096) (h2 : d2 l = (f, τ3)) (h3 : d3 l = (d, τ4)) (h6 : d6 l = (acc, τ6)) (h7 : d7 l = (o, τ)) (he : τ.e = 0) (ht : ¬ 0 < τ.t.length) (hm : mayC f d acc o = false) : decC l = (⟨0, 0, [], 0⟩, 15) := by
  have h8 : d8 l = 0 := by unfold d8; rw [h7, if_pos he, if_neg ht]
  have h9 : d9 l = 15 := by unfold d9; rw [h8, if_pos rfl, h2, h3, h6, h7]; simp only; rw [hm]; rfl
  unfold decC
  rw [if_neg (by omega), h9]; rfl
theorem dec_err {l : List Int} {o : Int} {τ : Tk} (hl : l.length ≤ 4096) (h7 : d7 l = (o, τ)) (he : τ.e ≠ 0) : decC l = (⟨0, 0, [], 0⟩, τ.e) := by
  have h8 : d8 l = τ.e := by unfold d8; rw [h7, if_neg he]
  have h9 : d9 l = τ.e := by unfold d9; rw [h8, if_neg he]
  unfold decC
  rw [if_neg (by omega), h9, if_neg he]
set_option maxRecDepth 20000 in
set_option maxHeartbeats 4000000 in
theorem decode_short (v : Value) (l : List Int) (w : World) (hr : RdS w .u8 v l) (hby : Byt l) (h : l.length ≤ 4096) :
    Calls Try.prog 45 #[v] w (DecPost w (decC l)) := by
  have HR := Lib.hid hr
  have HB := Lib.hid hby
  have HLN := Lib.hid h
  obtain ⟨A, c, rfl, -, -, hA⟩ := hr
  clear hA hby
  obtain ⟨n, hn⟩ : ∃ n, l.length = n := ⟨_, rfl⟩
  rw [hn] at h HR ⊢
  clear hn
  obtain ⟨⟨x1, τ1⟩, e1⟩ : ∃ r, (⟨l, 0⟩ : Tk).rd byteOf = r := ⟨_, rfl⟩
  have C1 : ∀ q b W, PRd W q b ⟨l, 0⟩ → Hid (Calls Try.prog 71 #[.pointer (some ⟨q, 0, none⟩)] W (PrPost W q b (x1, τ1))) := fun q b W h => by have := prByte q b _ W h; rw [e1] at this; exact Lib.hid this
  have D1 := Lib.hid (show d1 l = τ1.fail (decide (x1 ≠ 1)) 3 by unfold d1; rw [e1])
  obtain ⟨τ2, e2⟩ : ∃ r, d1 l = r := ⟨_, rfl⟩
  obtain ⟨⟨f, τ3⟩, e3⟩ : ∃ r, τ2.rd byteOf = r := ⟨_, rfl⟩
  have C3 : ∀ q b W, PRd W q b τ2 → Hid (Calls Try.prog 71 #[.pointer (some ⟨q, 0, none⟩)] W (PrPost W q b (f, τ3))) := fun q b W h => by have := prByte q b _ W h; rw [e3] at this; exact Lib.hid this
  have D2 := Lib.hid (show d2 l = (f, τ3) by unfold d2; rw [e2, e3])
  obtain ⟨⟨d, τ4⟩, e4⟩ : ∃ r, τ3.rd byteOf = r := ⟨_, rfl⟩
  have C4 : ∀ q b W, PRd W q b τ3 → Hid (Calls Try.prog 71 #[.pointer (some ⟨q, 0, none⟩)] W (PrPost W q b (d, τ4))) := fun q b W h => by have := prByte q b _ W h; rw [e4] at this; exact Lib.hid this
  have D3 := Lib.hid (show d3 l = (d, τ4) by unfold d3; rw [D2.out]; exact e4)
  obtain ⟨⟨m, τ5⟩, e5⟩ : ∃ r, τ4.rd uintOf = r := ⟨_, rfl⟩
  have C5 : ∀ q b W, PRd W q b τ4 → Hid (Calls Try.prog 72 #[.pointer (some ⟨q, 0, none⟩)] W (PrPost W q b (m, τ5))) := fun q b W h => by have := prNat q b _ W h; rw [e5] at this; exact Lib.hid this
  have D4 := Lib.hid (show d4 l = (m, τ5) by unfold d4; rw [D3.out]; exact e5)
  have D5 := Lib.hid (show d5 l = τ5.fail (decide (m < 1 ∨ 200 < m)) 15 by unfold d5; rw [D4.out])
  obtain ⟨σ, e6⟩ : ∃ r, d5 l = r := ⟨_, rfl⟩
  have hm := d4_rg l
  rw [D4.out] at hm
  obtain ⟨m0, m1⟩ := hm
  have hOK := Lib.hid (fun h => d5_ok (l := l) h)
  rw [e6, D4.out] at hOK
  have hBY := Lib.hid (d5_byt HB.out)
  rw [e6] at hBY
  rw [e2] at D1
  rw [e6] at D5
  have D6 := Lib.hid (show d6 l = decN σ m.toNat by unfold d6; rw [e6, D4.out])
  have D7 := Lib.hid (show d7 l = (d6 l).2.reg m by unfold d7; rw [D4.out])
  clear e1 e2 e3 e4 e5 e6
  simp only at m0 m1
  go_enter Try.func45, Try.ntmps45
  go_wp2_with fail
  refine use_new (HR.out.below (bl1 _)) (by have := HLN.out; omega) ?_
  intro b w1 hb1 hgb hr1
  have HZ1 : Hid (w1.heap[w.heap.size]? = some (.cells #[.int .i64 0, .int .i64 0, .slice none 0 0, .int .i64 0] 64 (0, 0))) := blk_below (blk_new w _) hb1.out
  have HW1 : Hid (Below w.heap.size w w1) := bl_tr (bl1 _) hb1.out
  have hbw : w.heap.size ≤ b := by have := hgb.out; simp at this; omega
  clear hb1 hgb
  go_wp2_with fail
  obtain ⟨q, hq⟩ : ∃ q, w1.heap.size = q := ⟨_, rfl⟩
  have hqw2 : w.heap.size < q := by rw [← hq]; exact blk_lt HZ1.out
  have hqw : w.heap.size ≤ q := Nat.le_of_lt hqw2
  have HP2 : Hid (PRd (w1.alloc (.cells #[.pointer (some ⟨b, 0, none⟩), .int .i64 0] 97)) q b ⟨l, 0⟩) := ⟨by rw [← hq]; exact blk_new _ _, l, 0, hr1.out.below (bl1 _), HB.out, rfl⟩
  have HW2 := Lib.hid (bl_alloc HW1.out (.cells #[.pointer (some ⟨b, 0, none⟩), .int .i64 0] 97))
  have HZ2 := Lib.hid (blk_below HZ1.out (bl1 (.cells #[.pointer (some ⟨b, 0, none⟩), .int .i64 0] 97)))
  rw [hq]
  clear hq hr1 HW1 HZ1
  refine use_pr (C1 q b _ HP2.out).out ?_
  intro w3 hp3 hk3
  have HW3 := Lib.hid (bl_pr HW2.out hk3.out hqw hbw)
  have HZ3 := Lib.hid (blk_pr HZ2.out (by decide) (by decide) HP2.out hk3.out)
  simp only at hp3 ⊢
  clear hk3 HP2 HW2 HZ2 C1
  go_wp2_with fail
  refine (prFail q b τ1 _ 3 _ hp3.out).mono fun e w4 ⟨he, hp4, hk4⟩ => ?_
  subst he
  have HP4 : Hid (PRd w4 q b τ2) := Lib.hid (by rw [D1.out]; have e : decide (x1 ≠ 1) = (x1 != 1) := (by by_cases h : x1 = 1 <;> simp [h]); rw [e]; exact hp4)
  have HW4 := Lib.hid (bl_pr HW3.out hk4 hqw hbw)
  have HZ4 := Lib.hid (blk_pr HZ3.out (by decide) (by decide) hp3.out hk4)
  clear hp4 hk4 hp3 HW3 HZ3 D1
  go_wp2_with fail
  refine use_pr (C3 q b _ HP4.out).out ?_
  intro w5 hp5 hk5
  have HW5 := Lib.hid (bl_pr HW4.out hk5.out hqw hbw)
  have HZ5 := Lib.hid (blk_pr HZ4.out (by decide) (by decide) HP4.out hk5.out)
  simp only at hp5 ⊢
  clear hk5 HP4 HW4 HZ4 C3
  go_wp2_with fail
  refine use_pr (C4 q b _ hp5.out).out ?_
  intro w6 hp6 hk6
  have HW6 := Lib.hid (bl_pr HW5.out hk6.out hqw hbw)
  have HZ6 := Lib.hid (blk_pr HZ5.out (by decide) (by decide) hp5.out hk6.out)
  simp only at hp6 ⊢
  clear hk6 hp5 HW5 HZ5 C4
  go_wp2_with fail
  obtain ⟨h, hh⟩ : ∃ h, w6.heap.size = h := ⟨_, rfl⟩
  have hhw : w.heap.size < h := by rw [← hh]; exact blk_lt HZ6.out
  have HH7 : Hid ((w6.alloc (.cells #[.int .i64 f, .int .i64 d, .slice none 0 0, .int .i64 0] 64)).heap[h]? = some (.cells #[.int .i64 f, .int .i64 d, .slice none 0 0, .int .i64 0] 64 (0, 0))) := Lib.hid (by rw [← hh]; exact blk_new _ _)
  have HW7 := Lib.hid (bl_alloc HW6.out (.cells #[.int .i64 f, .int .i64 d, .slice none 0 0, .int .i64 0] 64))
  have HZ7 := Lib.hid (blk_below HZ6.out (bl1 (.cells #[.int .i64 f, .int .i64 d, .slice none 0 0, .int .i64 0] 64)))
  have HP7 := Lib.hid (hp6.out.below (bl1 (.cells #[.int .i64 f, .int .i64 d, .slice none 0 0, .int .i64 0] 64)))
  rw [hh]
  clear hp6 HW6 HZ6 hh
  refine use_pr (C5 q b _ HP7.out).out ?_
  intro w8 hp8 hk8
  have HW8 := Lib.hid (bl_pr HW7.out hk8.out hqw hbw)
  have HZ8 := Lib.hid (blk_pr HZ7.out (by decide) (by decide) HP7.out hk8.out)
  have HH8 := Lib.hid (blk_pr HH7.out (by decide) (by decide) HP7.out hk8.out)
  simp only at hp8 ⊢
  clear hk8 HP7 HW7 HZ7 HH7 C5
  by_cases hc : m < 1
  · go_wp2_with fail
    refine (prFail q b τ5 _ 15 _ hp8.out).mono fun e w9 ⟨he, hp9, hk9⟩ => ?_
    subst he
    have HP9 : Hid (PRd w9 q b σ) := Lib.hid (by rw [D5.out, decide_eq_true (by omega)]; exact hp9)
    have HW9 := Lib.hid (bl_pr HW8.out hk9 hqw hbw)
    have HZ9 := Lib.hid (blk_pr HZ8.out (by decide) (by decide) hp8.out hk9)
    have HH9 := Lib.hid (blk_pr HH8.out (by decide) (by decide) hp8.out hk9)
    clear hp9 hk9 hp8 HW8 HZ8 HH8
    go_wp2_with fail
    go_loopw [7] (fun x wr => DecRel w q b h σ m f d x wr) (fun x _ => m.toNat - (intOf x).toNat)
    case atStart => exact ⟨0, by omega, rfl, fun j hj => absurd hj (Nat.not_lt_zero _), HP9.out, ⟨_, OwN.nil _ _, HH9.out⟩, HZ9.out, HW9.out⟩
    case round =>
      obtain ⟨k, hk, rfl, hok, hp, ⟨v, hv, hh⟩, hz, hb⟩ := hrel
      have HOK := Lib.hid hok
      have HP := Lib.hid hp
      have HV := Lib.hid hv
      have HH := Lib.hid hh
      have HZ := Lib.hid hz
      have HW := Lib.hid hb
      clear hok hp hv hh hz hb HP9 HH9 HZ9 HW9
      obtain ⟨τ, hτ⟩ : ∃ x, (decN σ k).2 = x := ⟨_, rfl⟩
      obtain ⟨acc, hacc⟩ : ∃ x, (decN σ k).1 = x := ⟨_, rfl⟩
      rw [hτ] at HP
      rw [hacc] at HV
      have HT := Lib.hid hτ
      have HA := Lib.hid hacc
      have hlen := Lib.hid (decN_len HOK.out)
      rw [hacc] at hlen
      obtain ⟨Av, cv, rfl⟩ := HV.out.form
      have c0 : wr.cell? ⟨q, 0, none⟩ = some (.pointer (some ⟨b, 0, none⟩)) := blk_cell HP.out.1 0
      have c1 : wr.cell? ⟨q, 1, none⟩ = some (.int .i64 τ.e) := blk_cell HP.out.1 1
      clear hτ hacc
      have hlt : ¬ (k : Int) < m := by omega
      by_cases he : τ.e = 0
      · skip
        obtain ⟨⟨o7, τ7⟩, h7⟩ : ∃ r, τ.reg m = r := ⟨_, rfl⟩
        have hreg := fun W h => Lib.hid (prReg q b τ m W h m0 m1)
        rw [h7] at hreg
        have HD6 : Hid (d6 l = (acc, τ)) := Lib.hid (by rw [D6.out, show m.toNat = k by omega]; exact Prod.ext HA.out HT.out)
        have HD7 : Hid (d7 l = (o7, τ7)) := Lib.hid (by rw [D7.out, HD6.out]; exact h7)
        clear he
        clear h7
        go_wp2_with fail
        refine use_pr (hreg _ HP.out).out ?_
        intro w10 hp10 hk10
        simp only at hp10 ⊢
        have HH10 := Lib.hid (blk_pr HH.out (by decide) (by decide) HP.out hk10.out)
        have HZ10 := Lib.hid (blk_pr HZ.out (by decide) (by decide) HP.out hk10.out)
        have HV10 := Lib.hid (OwN.pr HV.out HP.out hk10.out)
        have HW10 := Lib.hid (bl_pr HW.out hk10.out hqw hbw)
        have x3 : w10.cell? ⟨h, 3, none⟩ = some (.int .i64 0) := blk_cell HH10.out 3
        have y3 : w10.frozen? ⟨h, 3, none⟩ = false := blk_frozen HH10.out 3
        have HK11 := Lib.hid ((Kp.refl (· = h) w10).set (p := ⟨h, 3, none⟩) rfl (.int .i64 o7))
        have HP11 : Hid (PRd (w10.setCell ⟨h, 3, none⟩ (.int .i64 o7)) q b τ7) := hp10.out.far HH10.out (by decide) (by decide) (by decide) HK11.out
        have HH11 : Hid ((w10.setCell ⟨h, 3, none⟩ (.int .i64 o7)).heap[h]? = some (.cells #[.int .i64 f, .int .i64 d, .slice Av acc.length cv, .int .i64 o7] 64 (0, 0))) := blk_set HH10.out 3 _
        have HZ11 : Hid ((w10.setCell ⟨h, 3, none⟩ (.int .i64 o7)).heap[w.heap.size]? = some (.cells #[.int .i64 0, .int .i64 0, .slice none 0 0, .int .i64 0] 64 (0, 0))) := HK11.out.blk (by omega) HZ10.out
        have HV11 : Hid (OwN (w10.setCell ⟨h, 3, none⟩ (.int .i64 o7)) w.heap.size (.slice Av acc.length cv) acc) := HV10.out.kp HK11.out (fun g hg e => HV10.out.ne HH10.out (by decide) (by rw [hg, e]))
        have HW11 : Hid (Below w.heap.size w (w10.setCell ⟨h, 3, none⟩ (.int .i64 o7))) := bl_kp HW10.out HK11.out (fun k hk => by omega)
        have hqh : q ≠ h := by intro e; have h1 := hp10.out.1; rw [e, HH10.out] at h1; injection h1 with h1; injection h1 with _ h1; exact absurd h1 (by decide)
        clear c0 c1 hk10
        go_upto_region 13 with (fail)
        generalize (w10.setCell ⟨h, 3, none⟩ (.int .i64 o7)) = w11 at HP11 HH11 HZ11 HV11 HW11 ⊢
        by_cases h70 : τ7.e = 0
        · skip
          obtain ⟨t7, e7⟩ := τ7
          simp only at h70
          subst h70
          have cq0 : w11.cell? ⟨q, 0, none⟩ = some (.pointer (some ⟨b, 0, none⟩)) := blk_cell HP11.out.1 0
          have cq1 : w11.cell? ⟨q, 1, none⟩ = some (.int .i64 0) := blk_cell HP11.out.1 1
          have yq1 : w11.frozen? ⟨q, 1, none⟩ = false := blk_frozen HP11.out.1 1
          obtain ⟨-, l', pos, hr', hby', hd'⟩ := HP11.out
          simp only at hd'
          have hdn := fun W h => Lib.hid (octDone b l' pos W h)
          have hdl : t7.length = l'.length - pos := by rw [← hd', List.length_drop]
          have HR' := Lib.hid hr'
          clear hr' hby' hd'
          by_cases ht : 0 < t7.length
          · have hpl : pos < l'.length := by omega
            simp only [if_pos hpl] at hdn
            have HDE : Hid (decC l = (⟨0, 0, [], 0⟩, 5)) := Lib.hid (dec_tail HLN.out HD7.out rfl ht)
            clear hdl hpl ht
            go_wp2_with fail
            refine use_b (hdn _ HR'.out).out ?_
            intro w12 hb12
            have HP12 := Lib.hid (HP11.out.below hb12.out)
            have HH12 := Lib.hid (blk_below HH11.out hb12.out)
            have HZ12 := Lib.hid (blk_below HZ11.out hb12.out)
            have HV12 := Lib.hid (HV11.out.below hb12.out)
            have HW12 := Lib.hid (bl_tr HW11.out hb12.out)
            have cq0 : w12.cell? ⟨q, 0, none⟩ = some (.pointer (some ⟨b, 0, none⟩)) := blk_cell HP12.out.1 0
            have cq1 : w12.cell? ⟨q, 1, none⟩ = some (.int .i64 0) := blk_cell HP12.out.1 1
            have yq1 : w12.frozen? ⟨q, 1, none⟩ = false := blk_frozen HP12.out.1 1
            have HK13 := Lib.hid ((Kp.refl (· = q) w12).set (p := ⟨q, 1, none⟩) rfl (.int .i64 5))
            have HP13 : Hid (PRd (w12.setCell ⟨q, 1, none⟩ (.int .i64 5)) q b ⟨t7, 5⟩) := HP12.out.set 5
            have HH13 : Hid ((w12.setCell ⟨q, 1, none⟩ (.int .i64 5)).heap[h]? = some (.cells #[.int .i64 f, .int .i64 d, .slice Av acc.length cv, .int .i64 o7] 64 (0, 0))) := HK13.out.blk (Ne.symm hqh) HH12.out
            have HZ13 : Hid ((w12.setCell ⟨q, 1, none⟩ (.int .i64 5)).heap[w.heap.size]? = some (.cells #[.int .i64 0, .int .i64 0, .slice none 0 0, .int .i64 0] 64 (0, 0))) := HK13.out.blk (by omega) HZ12.out
            have HV13 : Hid (OwN (w12.setCell ⟨q, 1, none⟩ (.int .i64 5)) w.heap.size (.slice Av acc.length cv) acc) := HV12.out.kp HK13.out (fun g hg e => HV12.out.ne HP12.out.1 (by decide) (by rw [hg, e]))
            have HW13 : Hid (Below w.heap.size w (w12.setCell ⟨q, 1, none⟩ (.int .i64 5))) := bl_kp HW12.out HK13.out (fun k hk => by omega)
            go_upto_region 15 with (fail)
            generalize (w12.setCell ⟨q, 1, none⟩ (.int .i64 5)) = w13 at HP13 HH13 HZ13 HV13 HW13 ⊢
            have t0 : w13.cell? ⟨w.heap.size, 0, none⟩ = some (.int .i64 0) := blk_cell HZ13.out 0
            have t1 : w13.cell? ⟨w.heap.size, 1, none⟩ = some (.int .i64 0) := blk_cell HZ13.out 1
            have t2 : w13.cell? ⟨w.heap.size, 2, none⟩ = some (.slice none 0 0) := blk_cell HZ13.out 2
            have t3 : w13.cell? ⟨w.heap.size, 3, none⟩ = some (.int .i64 0) := blk_cell HZ13.out 3
            have z0 : w13.frozen? ⟨w.heap.size, 0, none⟩ = false := blk_frozen HZ13.out 0
            have z1 : w13.frozen? ⟨w.heap.size, 1, none⟩ = false := blk_frozen HZ13.out 1
            have z2 : w13.frozen? ⟨w.heap.size, 2, none⟩ = false := blk_frozen HZ13.out 2
            have z3 : w13.frozen? ⟨w.heap.size, 3, none⟩ = false := blk_frozen HZ13.out 3
            have cq : w13.cell? ⟨q, 1, none⟩ = some (.int .i64 5) := blk_cell HP13.out.1 1
            have KQ : Hid (∀ W' : World, Kp (· = w.heap.size) w13 W' → W'.cell? ⟨q, 1, none⟩ = some (.int .i64 5)) := fun W' hk => hk.cell (by simp; omega) cq
            go_wp2_with fail
            go_region_held3 (fun W' => W'.cell? ⟨q, 1, none⟩ = some (.int .i64 5)) (first | (refine KQ.out _ ?_; (repeat (first | exact Kp.refl _ _ | apply Kp.drew | apply Kp.drewN | (refine Kp.set ?_ (by rfl) _))); done) | go_keep | fail) (fail)
            go_wp2
            have hkz := (((((Kp.refl (· = w.heap.size) w13).set (p := ⟨w.heap.size, 0, none⟩) rfl (.int .i64 0)).set (p := ⟨w.heap.size, 1, none⟩) rfl (.int .i64 0)).set (p := ⟨w.heap.size, 2, none⟩) rfl (.slice none 0 0)).set (p := ⟨w.heap.size, 3, none⟩) rfl (.int .i64 0))
            refine bodyPost_ret (v := .tuple #[.agg #[.int .i64 0, .int .i64 0, .slice none 0 0, .int .i64 0], .int .i64 5]) (by simp [results, Try.results45, go_sem, t0, t1, t2, t3]) rfl ?_
            rw [HDE.out]
            exact ⟨_, rfl, OwN.nil _ _, bl_drewN (bl_kp HW13.out hkz (fun k hk => by omega)) _⟩
          · have hpl : ¬ pos < l'.length := by omega
            simp only [if_neg hpl] at hdn
            have ht0 := Lib.hid ht
            clear hdl hpl ht
            go_wp2_with fail
            refine use_b (hdn _ HR'.out).out ?_
            intro w12 hb12
            have HP12 := Lib.hid (HP11.out.below hb12.out)
            have HH12 := Lib.hid (blk_below HH11.out hb12.out)
            have HZ12 := Lib.hid (blk_below HZ11.out hb12.out)
            have HV12 := Lib.hid (HV11.out.below hb12.out)
            have HW12 := Lib.hid (bl_tr HW11.out hb12.out)
            have cq0 : w12.cell? ⟨q, 0, none⟩ = some (.pointer (some ⟨b, 0, none⟩)) := blk_cell HP12.out.1 0
            have cq1 : w12.cell? ⟨q, 1, none⟩ = some (.int .i64 0) := blk_cell HP12.out.1 1
            have yq1 : w12.frozen? ⟨q, 1, none⟩ = false := blk_frozen HP12.out.1 1
            have HK13 := Lib.hid ((Kp.refl (· = q) w12).set (p := ⟨q, 1, none⟩) rfl (.int .i64 0))
            have HP13 : Hid (PRd (w12.setCell ⟨q, 1, none⟩ (.int .i64 0)) q b ⟨t7, 0⟩) := HP12.out.set 0
            have HH13 : Hid ((w12.setCell ⟨q, 1, none⟩ (.int .i64 0)).heap[h]? = some (.cells #[.int .i64 f, .int .i64 d, .slice Av acc.length cv, .int .i64 o7] 64 (0, 0))) := HK13.out.blk (Ne.symm hqh) HH12.out
            have HZ13 : Hid ((w12.setCell ⟨q, 1, none⟩ (.int .i64 0)).heap[w.heap.size]? = some (.cells #[.int .i64 0, .int .i64 0, .slice none 0 0, .int .i64 0] 64 (0, 0))) := HK13.out.blk (by omega) HZ12.out
            have HV13 : Hid (OwN (w12.setCell ⟨q, 1, none⟩ (.int .i64 0)) w.heap.size (.slice Av acc.length cv) acc) := HV12.out.kp HK13.out (fun g hg e => HV12.out.ne HP12.out.1 (by decide) (by rw [hg, e]))
            have HW13 : Hid (Below w.heap.size w (w12.setCell ⟨q, 1, none⟩ (.int .i64 0))) := bl_kp HW12.out HK13.out (fun k hk => by omega)
            go_upto_region 15 with (fail)
            generalize (w12.setCell ⟨q, 1, none⟩ (.int .i64 0)) = w13 at HP13 HH13 HZ13 HV13 HW13 ⊢
            clear cq0 cq1 yq1
            have cq0 : w13.cell? ⟨q, 0, none⟩ = some (.pointer (some ⟨b, 0, none⟩)) := blk_cell HP13.out.1 0
            have cq1 : w13.cell? ⟨q, 1, none⟩ = some (.int .i64 0) := blk_cell HP13.out.1 1
            have yq1 : w13.frozen? ⟨q, 1, none⟩ = false := blk_frozen HP13.out.1 1
            have x0 : w13.cell? ⟨h, 0, none⟩ = some (.int .i64 f) := blk_cell HH13.out 0
            have x1 : w13.cell? ⟨h, 1, none⟩ = some (.int .i64 d) := blk_cell HH13.out 1
            have x2 : w13.cell? ⟨h, 2, none⟩ = some (.slice Av acc.length cv) := blk_cell HH13.out 2
            have x3 : w13.cell? ⟨h, 3, none⟩ = some (.int .i64 o7) := blk_cell HH13.out 3
            have HWF : Hid (wfL acc) := Lib.hid (by have := d6_wf HB.out; rw [HD6.out] at this; exact this)
            have hchk := fun W h => Lib.hid (check_any f d Av cv acc.length acc o7 W h rfl HWF.out)
            have HRA : Hid (RdN w13 Av acc) := Lib.hid (by obtain ⟨A', c', e, -, -, h⟩ := HV13.out.rd; injection e with e1; subst e1; exact h)
            cases hmay : mayC f d acc o7 with
            | true =>
              rw [hmay] at hchk
              have HDE : Hid (decC l = (⟨f, d, acc, o7⟩, 0)) := Lib.hid (dec_fin HLN.out D2.out D3.out HD6.out HD7.out rfl ht0.out hmay)
              clear hmay
              go_wp2_with fail
              refine use_b (hchk _ HRA.out).out ?_
              intro w14 hb14
              unfold CodErr
              have HP14 := Lib.hid (HP13.out.below hb14.out)
              have HH14 := Lib.hid (blk_below HH13.out hb14.out)
              have HZ14 := Lib.hid (blk_below HZ13.out hb14.out)
              have HV14 := Lib.hid (HV13.out.below hb14.out)
              have HW14 := Lib.hid (bl_tr HW13.out hb14.out)
              clear cq0 cq1 yq1 x0 x1 x2 x3
              have cq0 : w14.cell? ⟨q, 0, none⟩ = some (.pointer (some ⟨b, 0, none⟩)) := blk_cell HP14.out.1 0
              have cq1 : w14.cell? ⟨q, 1, none⟩ = some (.int .i64 0) := blk_cell HP14.out.1 1
              have yq1 : w14.frozen? ⟨q, 1, none⟩ = false := blk_frozen HP14.out.1 1
              have HK15 := Lib.hid ((Kp.refl (· = q) w14).set (p := ⟨q, 1, none⟩) rfl (.int .i64 0))
              have HP15 : Hid (PRd (w14.setCell ⟨q, 1, none⟩ (.int .i64 0)) q b ⟨t7, 0⟩) := HP14.out.set 0
              have HH15 : Hid ((w14.setCell ⟨q, 1, none⟩ (.int .i64 0)).heap[h]? = some (.cells #[.int .i64 f, .int .i64 d, .slice Av acc.length cv, .int .i64 o7] 64 (0, 0))) := HK15.out.blk (Ne.symm hqh) HH14.out
              have HZ15 : Hid ((w14.setCell ⟨q, 1, none⟩ (.int .i64 0)).heap[w.heap.size]? = some (.cells #[.int .i64 0, .int .i64 0, .slice none 0 0, .int .i64 0] 64 (0, 0))) := HK15.out.blk (by omega) HZ14.out
              have HV15 : Hid (OwN (w14.setCell ⟨q, 1, none⟩ (.int .i64 0)) w.heap.size (.slice Av acc.length cv) acc) := HV14.out.kp HK15.out (fun g hg e => HV14.out.ne HP14.out.1 (by decide) (by rw [hg, e]))
              have HW15 : Hid (Below w.heap.size w (w14.setCell ⟨q, 1, none⟩ (.int .i64 0))) := bl_kp HW14.out HK15.out (fun k hk => by omega)
              go_upto_region 17 with (fail)
              generalize (w14.setCell ⟨q, 1, none⟩ (.int .i64 0)) = w15 at HP15 HH15 HZ15 HV15 HW15 ⊢
              clear cq0 cq1 yq1
              have x0 : w15.cell? ⟨h, 0, none⟩ = some (.int .i64 f) := blk_cell HH15.out 0
              have x1 : w15.cell? ⟨h, 1, none⟩ = some (.int .i64 d) := blk_cell HH15.out 1
              have x2 : w15.cell? ⟨h, 2, none⟩ = some (.slice Av acc.length cv) := blk_cell HH15.out 2
              have x3 : w15.cell? ⟨h, 3, none⟩ = some (.int .i64 o7) := blk_cell HH15.out 3
              have t0 : w15.cell? ⟨w.heap.size, 0, none⟩ = some (.int .i64 0) := blk_cell HZ15.out 0
              have t1 : w15.cell? ⟨w.heap.size, 1, none⟩ = some (.int .i64 0) := blk_cell HZ15.out 1
              have t2 : w15.cell? ⟨w.heap.size, 2, none⟩ = some (.slice none 0 0) := blk_cell HZ15.out 2
              have t3 : w15.cell? ⟨w.heap.size, 3, none⟩ = some (.int .i64 0) := blk_cell HZ15.out 3
              have z0 : w15.frozen? ⟨w.heap.size, 0, none⟩ = false := blk_frozen HZ15.out 0
              have z1 : w15.frozen? ⟨w.heap.size, 1, none⟩ = false := blk_frozen HZ15.out 1
              have z2 : w15.frozen? ⟨w.heap.size, 2, none⟩ = false := blk_frozen HZ15.out 2
              have z3 : w15.frozen? ⟨w.heap.size, 3, none⟩ = false := blk_frozen HZ15.out 3
              have cq0 : w15.cell? ⟨q, 0, none⟩ = some (.pointer (some ⟨b, 0, none⟩)) := blk_cell HP15.out.1 0
              have cq1 : w15.cell? ⟨q, 1, none⟩ = some (.int .i64 0) := blk_cell HP15.out.1 1
              have yq1 : w15.frozen? ⟨q, 1, none⟩ = false := blk_frozen HP15.out.1 1
              clear yq1 cq0
              go_wp2
              have hkz := (((((Kp.refl (· = w.heap.size) w15).set (p := ⟨w.heap.size, 0, none⟩) rfl (.int .i64 f)).set (p := ⟨w.heap.size, 1, none⟩) rfl (.int .i64 d)).set (p := ⟨w.heap.size, 2, none⟩) rfl (.slice Av acc.length cv)).set (p := ⟨w.heap.size, 3, none⟩) rfl (.int .i64 o7))
              refine bodyPost_ret (v := .tuple #[.agg #[.int .i64 f, .int .i64 d, .slice Av acc.length cv, .int .i64 o7], .int .i64 0]) (by simp [results, Try.results45, go_sem, t0, t1, t2, t3]) rfl ?_
              rw [HDE.out]
              exact ⟨_, rfl, HV15.out.kp hkz (fun g hg e => HV15.out.ne HZ15.out (by decide) (by rw [hg, e])), bl_kp HW15.out hkz (fun k hk => by omega)⟩
            | false =>
              rw [hmay] at hchk
              have HDE : Hid (decC l = (⟨0, 0, [], 0⟩, 15)) := Lib.hid (dec_bad HLN.out D2.out D3.out HD6.out HD7.out rfl ht0.out hmay)
              clear hmay
              go_wp2_with fail
              refine use_b (hchk _ HRA.out).out ?_
              intro w14 hb14
              unfold CodErr
              have HP14 := Lib.hid (HP13.out.below hb14.out)
              have HH14 := Lib.hid (blk_below HH13.out hb14.out)
              have HZ14 := Lib.hid (blk_below HZ13.out hb14.out)
              have HV14 := Lib.hid (HV13.out.below hb14.out)
              have HW14 := Lib.hid (bl_tr HW13.out hb14.out)
              clear cq0 cq1 yq1 x0 x1 x2 x3
              have cq0 : w14.cell? ⟨q, 0, none⟩ = some (.pointer (some ⟨b, 0, none⟩)) := blk_cell HP14.out.1 0
              have cq1 : w14.cell? ⟨q, 1, none⟩ = some (.int .i64 0) := blk_cell HP14.out.1 1
              have yq1 : w14.frozen? ⟨q, 1, none⟩ = false := blk_frozen HP14.out.1 1
              have HK15 := Lib.hid ((Kp.refl (· = q) w14).set (p := ⟨q, 1, none⟩) rfl (.int .i64 15))
              have HP15 : Hid (PRd (w14.setCell ⟨q, 1, none⟩ (.int .i64 15)) q b ⟨t7, 15⟩) := HP14.out.set 15
              have HH15 : Hid ((w14.setCell ⟨q, 1, none⟩ (.int .i64 15)).heap[h]? = some (.cells #[.int .i64 f, .int .i64 d, .slice Av acc.length cv, .int .i64 o7] 64 (0, 0))) := HK15.out.blk (Ne.symm hqh) HH14.out
              have HZ15 : Hid ((w14.setCell ⟨q, 1, none⟩ (.int .i64 15)).heap[w.heap.size]? = some (.cells #[.int .i64 0, .int .i64 0, .slice none 0 0, .int .i64 0] 64 (0, 0))) := HK15.out.blk (by omega) HZ14.out
              have HV15 : Hid (OwN (w14.setCell ⟨q, 1, none⟩ (.int .i64 15)) w.heap.size (.slice Av acc.length cv) acc) := HV14.out.kp HK15.out (fun g hg e => HV14.out.ne HP14.out.1 (by decide) (by rw [hg, e]))
              have HW15 : Hid (Below w.heap.size w (w14.setCell ⟨q, 1, none⟩ (.int .i64 15))) := bl_kp HW14.out HK15.out (fun k hk => by omega)
              go_upto_region 17 with (fail)
              generalize (w14.setCell ⟨q, 1, none⟩ (.int .i64 15)) = w15 at HP15 HH15 HZ15 HV15 HW15 ⊢
              clear cq0 cq1 yq1
              have t0 : w15.cell? ⟨w.heap.size, 0, none⟩ = some (.int .i64 0) := blk_cell HZ15.out 0
              have t1 : w15.cell? ⟨w.heap.size, 1, none⟩ = some (.int .i64 0) := blk_cell HZ15.out 1
              have t2 : w15.cell? ⟨w.heap.size, 2, none⟩ = some (.slice none 0 0) := blk_cell HZ15.out 2
              have t3 : w15.cell? ⟨w.heap.size, 3, none⟩ = some (.int .i64 0) := blk_cell HZ15.out 3
              have z0 : w15.frozen? ⟨w.heap.size, 0, none⟩ = false := blk_frozen HZ15.out 0
              have z1 : w15.frozen? ⟨w.heap.size, 1, none⟩ = false := blk_frozen HZ15.out 1
              have z2 : w15.frozen? ⟨w.heap.size, 2, none⟩ = false := blk_frozen HZ15.out 2
              have z3 : w15.frozen? ⟨w.heap.size, 3, none⟩ = false := blk_frozen HZ15.out 3
              have cq : w15.cell? ⟨q, 1, none⟩ = some (.int .i64 15) := blk_cell HP15.out.1 1
              have KQ : Hid (∀ W' : World, Kp (· = w.heap.size) w15 W' → W'.cell? ⟨q, 1, none⟩ = some (.int .i64 15)) := fun W' hk => hk.cell (by simp; omega) cq
              go_wp2_with fail
              go_region_held3 (fun W' => W'.cell? ⟨q, 1, none⟩ = some (.int .i64 15)) (first | (refine KQ.out _ ?_; (repeat (first | exact Kp.refl _ _ | apply Kp.drew | apply Kp.drewN | (refine Kp.set ?_ (by rfl) _))); done) | go_keep | fail) (fail)
              go_wp2
              have hkz := (((((Kp.refl (· = w.heap.size) w15).set (p := ⟨w.heap.size, 0, none⟩) rfl (.int .i64 0)).set (p := ⟨w.heap.size, 1, none⟩) rfl (.int .i64 0)).set (p := ⟨w.heap.size, 2, none⟩) rfl (.slice none 0 0)).set (p := ⟨w.heap.size, 3, none⟩) rfl (.int .i64 0))
              refine bodyPost_ret (v := .tuple #[.agg #[.int .i64 0, .int .i64 0, .slice none 0 0, .int .i64 0], .int .i64 15]) (by simp [results, Try.results45, go_sem, t0, t1, t2, t3]) rfl ?_
              rw [HDE.out]
              exact ⟨_, rfl, OwN.nil _ _, bl_drewN (bl_kp HW15.out hkz (fun k hk => by omega)) _⟩
        · skip
          have hne : (τ7.e == 0) = false := by simpa using h70
          have hne2 : (τ7.e != 0) = true := by rw [bne_iff_ne]; exact h70
          have HDE : Hid (decC l = (⟨0, 0, [], 0⟩, τ7.e)) := Lib.hid (dec_err HLN.out HD7.out h70)
          clear h70
          have cq1 : w11.cell? ⟨q, 1, none⟩ = some (.int .i64 τ7.e) := blk_cell HP11.out.1 1
          have t0 : w11.cell? ⟨w.heap.size, 0, none⟩ = some (.int .i64 0) := blk_cell HZ11.out 0
          have t1 : w11.cell? ⟨w.heap.size, 1, none⟩ = some (.int .i64 0) := blk_cell HZ11.out 1
          have t2 : w11.cell? ⟨w.heap.size, 2, none⟩ = some (.slice none 0 0) := blk_cell HZ11.out 2
          have t3 : w11.cell? ⟨w.heap.size, 3, none⟩ = some (.int .i64 0) := blk_cell HZ11.out 3
          have z0 : w11.frozen? ⟨w.heap.size, 0, none⟩ = false := blk_frozen HZ11.out 0
          have z1 : w11.frozen? ⟨w.heap.size, 1, none⟩ = false := blk_frozen HZ11.out 1
          have z2 : w11.frozen? ⟨w.heap.size, 2, none⟩ = false := blk_frozen HZ11.out 2
          have z3 : w11.frozen? ⟨w.heap.size, 3, none⟩ = false := blk_frozen HZ11.out 3
          have cq : w11.cell? ⟨q, 1, none⟩ = some (.int .i64 τ7.e) := blk_cell HP11.out.1 1
          have KQ : Hid (∀ W' : World, Kp (· = w.heap.size) w11 W' → W'.cell? ⟨q, 1, none⟩ = some (.int .i64 τ7.e)) := fun W' hk => hk.cell (by simp; omega) cq
          go_wp2_with fail
          go_region_held3 (fun W' => W'.cell? ⟨q, 1, none⟩ = some (.int .i64 τ7.e)) (first | (refine KQ.out _ ?_; (repeat (first | exact Kp.refl _ _ | apply Kp.drew | apply Kp.drewN | (refine Kp.set ?_ (by rfl) _))); done) | go_keep | fail) (fail)
          go_wp2
          have hkz := (((((Kp.refl (· = w.heap.size) w11).set (p := ⟨w.heap.size, 0, none⟩) rfl (.int .i64 0)).set (p := ⟨w.heap.size, 1, none⟩) rfl (.int .i64 0)).set (p := ⟨w.heap.size, 2, none⟩) rfl (.slice none 0 0)).set (p := ⟨w.heap.size, 3, none⟩) rfl (.int .i64 0))
          refine bodyPost_ret (v := .tuple #[.agg #[.int .i64 0, .int .i64 0, .slice none 0 0, .int .i64 0], .int .i64 τ7.e]) (by simp [results, Try.results45, go_sem, t0, t1, t2, t3]) rfl ?_
          rw [HDE.out]
          exact ⟨_, rfl, OwN.nil _ _, bl_drewN (bl_kp HW11.out hkz (fun k hk => by omega)) _⟩
      · skip
        obtain ⟨⟨o7, τ7⟩, h7⟩ : ∃ r, τ.reg m = r := ⟨_, rfl⟩
        have hreg := fun W h => Lib.hid (prReg q b τ m W h m0 m1)
        rw [h7] at hreg
        have HD6 : Hid (d6 l = (acc, τ)) := Lib.hid (by rw [D6.out, show m.toNat = k by omega]; exact Prod.ext HA.out HT.out)
        have HD7 : Hid (d7 l = (o7, τ7)) := Lib.hid (by rw [D7.out, HD6.out]; exact h7)
        obtain ⟨e7a, e7b⟩ := reg_stop (p := m) he
        rw [h7] at e7a e7b
        simp only at e7a e7b
        subst e7a
        clear e7b
        have hne : (τ7.e == 0) = false := by simpa using he
        have hne2 : (τ7.e != 0) = true := by rw [bne_iff_ne]; exact he
        have HDE : Hid (decC l = (⟨0, 0, [], 0⟩, τ7.e)) := Lib.hid (dec_err HLN.out HD7.out he)
        clear he
        clear h7
        go_wp2_with fail
        refine use_pr (hreg _ HP.out).out ?_
        intro w10 hp10 hk10
        simp only at hp10 ⊢
        have HH10 := Lib.hid (blk_pr HH.out (by decide) (by decide) HP.out hk10.out)
        have HZ10 := Lib.hid (blk_pr HZ.out (by decide) (by decide) HP.out hk10.out)
        have HV10 := Lib.hid (OwN.pr HV.out HP.out hk10.out)
        have HW10 := Lib.hid (bl_pr HW.out hk10.out hqw hbw)
        have x3 : w10.cell? ⟨h, 3, none⟩ = some (.int .i64 0) := blk_cell HH10.out 3
        have y3 : w10.frozen? ⟨h, 3, none⟩ = false := blk_frozen HH10.out 3
        have HK11 := Lib.hid ((Kp.refl (· = h) w10).set (p := ⟨h, 3, none⟩) rfl (.int .i64 o7))
        have HP11 : Hid (PRd (w10.setCell ⟨h, 3, none⟩ (.int .i64 o7)) q b τ7) := hp10.out.far HH10.out (by decide) (by decide) (by decide) HK11.out
        have HH11 : Hid ((w10.setCell ⟨h, 3, none⟩ (.int .i64 o7)).heap[h]? = some (.cells #[.int .i64 f, .int .i64 d, .slice Av acc.length cv, .int .i64 o7] 64 (0, 0))) := blk_set HH10.out 3 _
        have HZ11 : Hid ((w10.setCell ⟨h, 3, none⟩ (.int .i64 o7)).heap[w.heap.size]? = some (.cells #[.int .i64 0, .int .i64 0, .slice none 0 0, .int .i64 0] 64 (0, 0))) := HK11.out.blk (by omega) HZ10.out
        have HV11 : Hid (OwN (w10.setCell ⟨h, 3, none⟩ (.int .i64 o7)) w.heap.size (.slice Av acc.length cv) acc) := HV10.out.kp HK11.out (fun g hg e => HV10.out.ne HH10.out (by decide) (by rw [hg, e]))
        have HW11 : Hid (Below w.heap.size w (w10.setCell ⟨h, 3, none⟩ (.int .i64 o7))) := bl_kp HW10.out HK11.out (fun k hk => by omega)
        have hqh : q ≠ h := by intro e; have h1 := hp10.out.1; rw [e, HH10.out] at h1; injection h1 with h1; injection h1 with _ h1; exact absurd h1 (by decide)
        clear c0 c1 hk10
        go_upto_region 13 with (fail)
        generalize (w10.setCell ⟨h, 3, none⟩ (.int .i64 o7)) = w11 at HP11 HH11 HZ11 HV11 HW11 ⊢
        have cq1 : w11.cell? ⟨q, 1, none⟩ = some (.int .i64 τ7.e) := blk_cell HP11.out.1 1
        have t0 : w11.cell? ⟨w.heap.size, 0, none⟩ = some (.int .i64 0) := blk_cell HZ11.out 0
        have t1 : w11.cell? ⟨w.heap.size, 1, none⟩ = some (.int .i64 0) := blk_cell HZ11.out 1
        have t2 : w11.cell? ⟨w.heap.size, 2, none⟩ = some (.slice none 0 0) := blk_cell HZ11.out 2
        have t3 : w11.cell? ⟨w.heap.size, 3, none⟩ = some (.int .i64 0) := blk_cell HZ11.out 3
        have z0 : w11.frozen? ⟨w.heap.size, 0, none⟩ = false := blk_frozen HZ11.out 0
        have z1 : w11.frozen? ⟨w.heap.size, 1, none⟩ = false := blk_frozen HZ11.out 1
        have z2 : w11.frozen? ⟨w.heap.size, 2, none⟩ = false := blk_frozen HZ11.out 2
        have z3 : w11.frozen? ⟨w.heap.size, 3, none⟩ = false := blk_frozen HZ11.out 3
        have cq : w11.cell? ⟨q, 1, none⟩ = some (.int .i64 τ7.e) := blk_cell HP11.out.1 1
        have KQ : Hid (∀ W' : World, Kp (· = w.heap.size) w11 W' → W'.cell? ⟨q, 1, none⟩ = some (.int .i64 τ7.e)) := fun W' hk => hk.cell (by simp; omega) cq
        go_wp2_with fail
        go_region_held3 (fun W' => W'.cell? ⟨q, 1, none⟩ = some (.int .i64 τ7.e)) (first | (refine KQ.out _ ?_; (repeat (first | exact Kp.refl _ _ | apply Kp.drew | apply Kp.drewN | (refine Kp.set ?_ (by rfl) _))); done) | go_keep | fail) (fail)
        go_wp2
        have hkz := (((((Kp.refl (· = w.heap.size) w11).set (p := ⟨w.heap.size, 0, none⟩) rfl (.int .i64 0)).set (p := ⟨w.heap.size, 1, none⟩) rfl (.int .i64 0)).set (p := ⟨w.heap.size, 2, none⟩) rfl (.slice none 0 0)).set (p := ⟨w.heap.size, 3, none⟩) rfl (.int .i64 0))
        refine bodyPost_ret (v := .tuple #[.agg #[.int .i64 0, .int .i64 0, .slice none 0 0, .int .i64 0], .int .i64 τ7.e]) (by simp [results, Try.results45, go_sem, t0, t1, t2, t3]) rfl ?_
        rw [HDE.out]
        exact ⟨_, rfl, OwN.nil _ _, bl_drewN (bl_kp HW11.out hkz (fun k hk => by omega)) _⟩
  · go_wp2_with fail
    refine (prFail q b τ5 _ 15 _ hp8.out).mono fun e w9 ⟨he, hp9, hk9⟩ => ?_
    subst he
    have HP9 : Hid (PRd w9 q b σ) := Lib.hid (by rw [D5.out, decide_eq_decide.2 (show (m < 1 ∨ 200 < m) ↔ 200 < m by omega)]; exact hp9)
    have HW9 := Lib.hid (bl_pr HW8.out hk9 hqw hbw)
    have HZ9 := Lib.hid (blk_pr HZ8.out (by decide) (by decide) hp8.out hk9)
    have HH9 := Lib.hid (blk_pr HH8.out (by decide) (by decide) hp8.out hk9)
    clear hp9 hk9 hp8 HW8 HZ8 HH8
    go_wp2_with fail
    go_loopw [7] (fun x wr => DecRel w q b h σ m f d x wr) (fun x _ => m.toNat - (intOf x).toNat)
    case atStart => exact ⟨0, by omega, rfl, fun j hj => absurd hj (Nat.not_lt_zero _), HP9.out, ⟨_, OwN.nil _ _, HH9.out⟩, HZ9.out, HW9.out⟩
    case round =>
      obtain ⟨k, hk, rfl, hok, hp, ⟨v, hv, hh⟩, hz, hb⟩ := hrel
      have HOK := Lib.hid hok
      have HP := Lib.hid hp
      have HV := Lib.hid hv
      have HH := Lib.hid hh
      have HZ := Lib.hid hz
      have HW := Lib.hid hb
      clear hok hp hv hh hz hb HP9 HH9 HZ9 HW9
      obtain ⟨τ, hτ⟩ : ∃ x, (decN σ k).2 = x := ⟨_, rfl⟩
      obtain ⟨acc, hacc⟩ : ∃ x, (decN σ k).1 = x := ⟨_, rfl⟩
      rw [hτ] at HP
      rw [hacc] at HV
      have HT := Lib.hid hτ
      have HA := Lib.hid hacc
      have hlen := Lib.hid (decN_len HOK.out)
      rw [hacc] at hlen
      obtain ⟨Av, cv, rfl⟩ := HV.out.form
      have c0 : wr.cell? ⟨q, 0, none⟩ = some (.pointer (some ⟨b, 0, none⟩)) := blk_cell HP.out.1 0
      have c1 : wr.cell? ⟨q, 1, none⟩ = some (.int .i64 τ.e) := blk_cell HP.out.1 1
      clear hτ hacc
      by_cases hlt : (k : Int) < m
      · by_cases he : τ.e = 0
        · have hsig : σ.e = 0 := by
            by_cases h0 : k = 0
            · subst h0; have := HT.out; rw [← this] at he; exact he
            · exact HOK.out 0 (by omega)
          have hm2 := hOK.out hsig
          obtain ⟨⟨⟨o, a2, b2, c2, k2, s2⟩, τ'⟩, hd⟩ : ∃ r, decI τ k = r := ⟨_, rfl⟩
          have hinst : ∀ W, PRd W q b τ → Hid (Calls Try.prog 73 #[.pointer (some ⟨q, 0, none⟩), .int .i64 k] W (PrIPost W q b (⟨o, a2, b2, c2, k2, s2⟩, τ'))) := fun W h => by have := prInst q b τ k W h (by omega) (by omega); rw [hd] at this; exact Lib.hid this
          have hnx := Lib.hid (show decN σ (k + 1) = (acc ++ [⟨o, a2, b2, c2, k2, s2⟩], τ') by rw [decN_ok (by rw [HT.out]; exact he), HT.out, HA.out, hd])
          have hok2 := Lib.hid (show ∀ j, j < k + 1 → (decN σ j).2.e = 0 from fun j hj => by
            by_cases h0 : j = k
            · subst h0; rw [HT.out]; exact he
            · exact HOK.out j (by omega))
          have h1l := Lib.hid (show ([⟨o, a2, b2, c2, k2, s2⟩] : List Ins).length ≤ 9223372036854775807 by simp)
          have hbd := Lib.hid (show (acc.length + ([⟨o, a2, b2, c2, k2, s2⟩] : List Ins).length) * 48 ≤ 140737488355328 by rw [hlen.out]; simp; omega)
          rw [he] at c1
          have hc2 : wr.cell? ⟨h, 2, none⟩ = some (.slice Av acc.length cv) := blk_cell HH.out 2
          clear hd hsig he
          go_wp2_with fail
          go_region_law (first | (refine step_inst (by rfl) #[.tmp 51, .tmp 52] #[95, 3] (by rfl) q b (k : Int) (by rfl) (hinst _ (HP.out.below (by repeat (first | exact Below.refl _ _ | apply bl_alloc | apply bl_drew | apply bl_drewN | (refine bl_tr' (by assumption) ?_))))).out ?_; intro w3 hp3 hk3; have HW3 := Lib.hid (bl_pr (bl_tr HW.out (show Below wr.heap.size wr _ from by repeat (first | exact Below.refl _ _ | apply bl_alloc | apply bl_drew | apply bl_drewN | (refine bl_tr' (by assumption) ?_)))) hk3.out hqw hbw); have hsz3 : wr.heap.size ≤ w3.heap.size := Nat.le_trans (show Below wr.heap.size wr _ from by repeat (first | exact Below.refl _ _ | apply bl_alloc | apply bl_drew | apply bl_drewN | (refine bl_tr' (by assumption) ?_))).size hk3.out.size; have HV3 := Lib.hid (OwN.pr (HV.out.below (show Below wr.heap.size wr _ from by repeat (first | exact Below.refl _ _ | apply bl_alloc | apply bl_drew | apply bl_drewN | (refine bl_tr' (by assumption) ?_)))) (HP.out.below (by repeat (first | exact Below.refl _ _ | apply bl_alloc | apply bl_drew | apply bl_drewN | (refine bl_tr' (by assumption) ?_)))) hk3.out); have HH3 := Lib.hid (blk_pr (blk_below HH.out (show Below wr.heap.size wr _ from by repeat (first | exact Below.refl _ _ | apply bl_alloc | apply bl_drew | apply bl_drewN | (refine bl_tr' (by assumption) ?_)))) (by decide) (by decide) (HP.out.below (by repeat (first | exact Below.refl _ _ | apply bl_alloc | apply bl_drew | apply bl_drewN | (refine bl_tr' (by assumption) ?_)))) hk3.out); have HZ3 := Lib.hid (blk_pr (blk_below HZ.out (show Below wr.heap.size wr _ from by repeat (first | exact Below.refl _ _ | apply bl_alloc | apply bl_drew | apply bl_drewN | (refine bl_tr' (by assumption) ?_)))) (by decide) (by decide) (HP.out.below (by repeat (first | exact Below.refl _ _ | apply bl_alloc | apply bl_drew | apply bl_drewN | (refine bl_tr' (by assumption) ?_)))) hk3.out); have h3c : w3.cell? ⟨h, 2, none⟩ = some (.slice Av acc.length cv) := blk_cell HH3.out 2; have h3l : h < w3.heap.size := blk_lt HH3.out) | (have tok := HV3; refine step_ap_rowN w.heap.size (by rfl) (.tmp 50) (.tmp 54) 62 (.agg #[.int .i64 0, .int .i64 0, .int .i64 0, .int .i64 0, .int .i64 0, .int .i64 0]) 48 (by rfl) Try.underlying62 info_ins (by rfl) (by decide) acc [⟨o, a2, b2, c2, k2, s2⟩] (acc.length + 1) ?_ ?_ ?_ ?_ ?_ ?_; exact HV3.out.below (by repeat (first | exact Below.refl _ _ | apply bl_alloc | apply bl_drew | apply bl_drewN | (refine bl_tr' (by assumption) ?_))); exact (OwN.lit (W := w3) (base := 0) [⟨o, a2, b2, c2, k2, s2⟩] (Nat.zero_le _) h1l.out).rd.below (by repeat (first | exact Below.refl _ _ | apply bl_alloc | apply bl_drew | apply bl_drewN | (refine bl_tr' (by assumption) ?_))); exact Nat.le_trans HW3.out.size (show Below w3.heap.size w3 _ from by repeat (first | exact Below.refl _ _ | apply bl_alloc | apply bl_drew | apply bl_drewN | (refine bl_tr' (by assumption) ?_))).size; exact hbd.out; rfl; intro A4 c4 w4 hO4 hg4 hat4; have HH4 := Lib.hid (blk_grownN (blk_below HH3.out (show Below w3.heap.size w3 _ from by repeat (first | exact Below.refl _ _ | apply bl_alloc | apply bl_drew | apply bl_drewN | (refine bl_tr' (by assumption) ?_)))) (HV3.out.below (show Below w3.heap.size w3 _ from by repeat (first | exact Below.refl _ _ | apply bl_alloc | apply bl_drew | apply bl_drewN | (refine bl_tr' (by assumption) ?_)))) (by decide) hg4.out); have HZ4 := Lib.hid (blk_grownN (blk_below HZ3.out (show Below w3.heap.size w3 _ from by repeat (first | exact Below.refl _ _ | apply bl_alloc | apply bl_drew | apply bl_drewN | (refine bl_tr' (by assumption) ?_)))) (HV3.out.below (show Below w3.heap.size w3 _ from by repeat (first | exact Below.refl _ _ | apply bl_alloc | apply bl_drew | apply bl_drewN | (refine bl_tr' (by assumption) ?_)))) (by decide) hg4.out); have HP4 := Lib.hid (PRd.grownN (hp3.out.below (show Below w3.heap.size w3 _ from by repeat (first | exact Below.refl _ _ | apply bl_alloc | apply bl_drew | apply bl_drewN | (refine bl_tr' (by assumption) ?_)))) (HV3.out.below (show Below w3.heap.size w3 _ from by repeat (first | exact Below.refl _ _ | apply bl_alloc | apply bl_drew | apply bl_drewN | (refine bl_tr' (by assumption) ?_)))) hg4.out); have HW4 : Hid (Below w.heap.size w w4) := (by (refine (bl_tr HW3.out (show Below w3.heap.size w3 _ from ?_)).grown hg4.out ?_ ?_); (repeat (first | exact Below.refl _ _ | apply bl_alloc | apply bl_drew | apply bl_drewN | (refine bl_tr' (by assumption) ?_))); (exact Nat.le_trans HW3.out.size (show Below w3.heap.size w3 _ from by repeat (first | exact Below.refl _ _ | apply bl_alloc | apply bl_drew | apply bl_drewN | (refine bl_tr' (by assumption) ?_))).size); (intro g hg; exact ((HV3.out.below (show Below w3.heap.size w3 _ from by repeat (first | exact Below.refl _ _ | apply bl_alloc | apply bl_drew | apply bl_drewN | (refine bl_tr' (by assumption) ?_)))).blockGe g hg).1)); have hsz4 : wr.heap.size < w4.heap.size := Nat.lt_of_lt_of_le (by (have := hsz3; simp; omega)) hg4.out.size; have h4c : w4.cell? ⟨h, 2, none⟩ = some (.slice Av acc.length cv) := blk_cell HH4.out 2; have h4z : w4.frozen? ⟨h, 2, none⟩ = false := blk_frozen HH4.out 2) | fail)
          all_goals
            go_wp2
            go_roundw
            case measure => simp [intOf]; omega
            case rel =>
              refine ⟨k + 1, by omega, by go_num, hok2.out, ?_, ⟨.slice A4 (acc.length + 1) c4, ?_, ?_⟩, ?_, ?_⟩
              · rw [hnx.out]; exact HP4.out.far HH4.out (by decide) (by decide) (by decide) ((Kp.refl (· = h) w4).set rfl _)
              · rw [hnx.out]; exact hO4.out.kp ((Kp.refl (· = h) w4).set rfl _) (fun g hg e => hO4.out.ne HH4.out (by decide) (by rw [hg, e]))
              · exact blk_set HH4.out 2 _
              · exact ((Kp.refl (· = h) w4).set (p := ⟨h, 2, none⟩) rfl _).blk (by omega) HZ4.out
              · exact bl_kp HW4.out ((Kp.refl (· = h) w4).set rfl _) (fun k hk => by omega)
        · skip
          obtain ⟨⟨o7, τ7⟩, h7⟩ : ∃ r, τ.reg m = r := ⟨_, rfl⟩
          have hreg := fun W h => Lib.hid (prReg q b τ m W h m0 m1)
          rw [h7] at hreg
          have HD6 : Hid (d6 l = (acc, τ)) := Lib.hid (by rw [D6.out, decN_stop' (k := k) (by rw [HT.out]; exact he) (by omega)]; exact Prod.ext HA.out HT.out)
          have HD7 : Hid (d7 l = (o7, τ7)) := Lib.hid (by rw [D7.out, HD6.out]; exact h7)
          obtain ⟨e7a, e7b⟩ := reg_stop (p := m) he
          rw [h7] at e7a e7b
          simp only at e7a e7b
          subst e7a
          clear e7b
          have hne : (τ7.e == 0) = false := by simpa using he
          have hne2 : (τ7.e != 0) = true := by rw [bne_iff_ne]; exact he
          have HDE : Hid (decC l = (⟨0, 0, [], 0⟩, τ7.e)) := Lib.hid (dec_err HLN.out HD7.out he)
          clear he
          clear h7
          go_wp2_with fail
          refine use_pr (hreg _ HP.out).out ?_
          intro w10 hp10 hk10
          simp only at hp10 ⊢
          have HH10 := Lib.hid (blk_pr HH.out (by decide) (by decide) HP.out hk10.out)
          have HZ10 := Lib.hid (blk_pr HZ.out (by decide) (by decide) HP.out hk10.out)
          have HV10 := Lib.hid (OwN.pr HV.out HP.out hk10.out)
          have HW10 := Lib.hid (bl_pr HW.out hk10.out hqw hbw)
          have x3 : w10.cell? ⟨h, 3, none⟩ = some (.int .i64 0) := blk_cell HH10.out 3
          have y3 : w10.frozen? ⟨h, 3, none⟩ = false := blk_frozen HH10.out 3
          have HK11 := Lib.hid ((Kp.refl (· = h) w10).set (p := ⟨h, 3, none⟩) rfl (.int .i64 o7))
          have HP11 : Hid (PRd (w10.setCell ⟨h, 3, none⟩ (.int .i64 o7)) q b τ7) := hp10.out.far HH10.out (by decide) (by decide) (by decide) HK11.out
          have HH11 : Hid ((w10.setCell ⟨h, 3, none⟩ (.int .i64 o7)).heap[h]? = some (.cells #[.int .i64 f, .int .i64 d, .slice Av acc.length cv, .int .i64 o7] 64 (0, 0))) := blk_set HH10.out 3 _
          have HZ11 : Hid ((w10.setCell ⟨h, 3, none⟩ (.int .i64 o7)).heap[w.heap.size]? = some (.cells #[.int .i64 0, .int .i64 0, .slice none 0 0, .int .i64 0] 64 (0, 0))) := HK11.out.blk (by omega) HZ10.out
          have HV11 : Hid (OwN (w10.setCell ⟨h, 3, none⟩ (.int .i64 o7)) w.heap.size (.slice Av acc.length cv) acc) := HV10.out.kp HK11.out (fun g hg e => HV10.out.ne HH10.out (by decide) (by rw [hg, e]))
          have HW11 : Hid (Below w.heap.size w (w10.setCell ⟨h, 3, none⟩ (.int .i64 o7))) := bl_kp HW10.out HK11.out (fun k hk => by omega)
          have hqh : q ≠ h := by intro e; have h1 := hp10.out.1; rw [e, HH10.out] at h1; injection h1 with h1; injection h1 with _ h1; exact absurd h1 (by decide)
          clear c0 c1 hk10
          go_upto_region 13 with (fail)
          generalize (w10.setCell ⟨h, 3, none⟩ (.int .i64 o7)) = w11 at HP11 HH11 HZ11 HV11 HW11 ⊢
          have cq1 : w11.cell? ⟨q, 1, none⟩ = some (.int .i64 τ7.e) := blk_cell HP11.out.1 1
          have t0 : w11.cell? ⟨w.heap.size, 0, none⟩ = some (.int .i64 0) := blk_cell HZ11.out 0
          have t1 : w11.cell? ⟨w.heap.size, 1, none⟩ = some (.int .i64 0) := blk_cell HZ11.out 1
          have t2 : w11.cell? ⟨w.heap.size, 2, none⟩ = some (.slice none 0 0) := blk_cell HZ11.out 2
          have t3 : w11.cell? ⟨w.heap.size, 3, none⟩ = some (.int .i64 0) := blk_cell HZ11.out 3
          have z0 : w11.frozen? ⟨w.heap.size, 0, none⟩ = false := blk_frozen HZ11.out 0
          have z1 : w11.frozen? ⟨w.heap.size, 1, none⟩ = false := blk_frozen HZ11.out 1
          have z2 : w11.frozen? ⟨w.heap.size, 2, none⟩ = false := blk_frozen HZ11.out 2
          have z3 : w11.frozen? ⟨w.heap.size, 3, none⟩ = false := blk_frozen HZ11.out 3
          have cq : w11.cell? ⟨q, 1, none⟩ = some (.int .i64 τ7.e) := blk_cell HP11.out.1 1
          have KQ : Hid (∀ W' : World, Kp (· = w.heap.size) w11 W' → W'.cell? ⟨q, 1, none⟩ = some (.int .i64 τ7.e)) := fun W' hk => hk.cell (by simp; omega) cq
          go_wp2_with fail
          go_region_held3 (fun W' => W'.cell? ⟨q, 1, none⟩ = some (.int .i64 τ7.e)) (first | (refine KQ.out _ ?_; (repeat (first | exact Kp.refl _ _ | apply Kp.drew | apply Kp.drewN | (refine Kp.set ?_ (by rfl) _))); done) | go_keep | fail) (fail)
          go_wp2
          have hkz := (((((Kp.refl (· = w.heap.size) w11).set (p := ⟨w.heap.size, 0, none⟩) rfl (.int .i64 0)).set (p := ⟨w.heap.size, 1, none⟩) rfl (.int .i64 0)).set (p := ⟨w.heap.size, 2, none⟩) rfl (.slice none 0 0)).set (p := ⟨w.heap.size, 3, none⟩) rfl (.int .i64 0))
          refine bodyPost_ret (v := .tuple #[.agg #[.int .i64 0, .int .i64 0, .slice none 0 0, .int .i64 0], .int .i64 τ7.e]) (by simp [results, Try.results45, go_sem, t0, t1, t2, t3]) rfl ?_
          rw [HDE.out]
          exact ⟨_, rfl, OwN.nil _ _, bl_drewN (bl_kp HW11.out hkz (fun k hk => by omega)) _⟩
      · by_cases he : τ.e = 0
        · skip
          obtain ⟨⟨o7, τ7⟩, h7⟩ : ∃ r, τ.reg m = r := ⟨_, rfl⟩
          have hreg := fun W h => Lib.hid (prReg q b τ m W h m0 m1)
          rw [h7] at hreg
          have HD6 : Hid (d6 l = (acc, τ)) := Lib.hid (by rw [D6.out, show m.toNat = k by omega]; exact Prod.ext HA.out HT.out)
          have HD7 : Hid (d7 l = (o7, τ7)) := Lib.hid (by rw [D7.out, HD6.out]; exact h7)
          clear he
          clear h7
          go_wp2_with fail
          refine use_pr (hreg _ HP.out).out ?_
          intro w10 hp10 hk10
          simp only at hp10 ⊢
          have HH10 := Lib.hid (blk_pr HH.out (by decide) (by decide) HP.out hk10.out)
          have HZ10 := Lib.hid (blk_pr HZ.out (by decide) (by decide) HP.out hk10.out)
          have HV10 := Lib.hid (OwN.pr HV.out HP.out hk10.out)
          have HW10 := Lib.hid (bl_pr HW.out hk10.out hqw hbw)
          have x3 : w10.cell? ⟨h, 3, none⟩ = some (.int .i64 0) := blk_cell HH10.out 3
          have y3 : w10.frozen? ⟨h, 3, none⟩ = false := blk_frozen HH10.out 3
          have HK11 := Lib.hid ((Kp.refl (· = h) w10).set (p := ⟨h, 3, none⟩) rfl (.int .i64 o7))
          have HP11 : Hid (PRd (w10.setCell ⟨h, 3, none⟩ (.int .i64 o7)) q b τ7) := hp10.out.far HH10.out (by decide) (by decide) (by decide) HK11.out
          have HH11 : Hid ((w10.setCell ⟨h, 3, none⟩ (.int .i64 o7)).heap[h]? = some (.cells #[.int .i64 f, .int .i64 d, .slice Av acc.length cv, .int .i64 o7] 64 (0, 0))) := blk_set HH10.out 3 _
          have HZ11 : Hid ((w10.setCell ⟨h, 3, none⟩ (.int .i64 o7)).heap[w.heap.size]? = some (.cells #[.int .i64 0, .int .i64 0, .slice none 0 0, .int .i64 0] 64 (0, 0))) := HK11.out.blk (by omega) HZ10.out
          have HV11 : Hid (OwN (w10.setCell ⟨h, 3, none⟩ (.int .i64 o7)) w.heap.size (.slice Av acc.length cv) acc) := HV10.out.kp HK11.out (fun g hg e => HV10.out.ne HH10.out (by decide) (by rw [hg, e]))
          have HW11 : Hid (Below w.heap.size w (w10.setCell ⟨h, 3, none⟩ (.int .i64 o7))) := bl_kp HW10.out HK11.out (fun k hk => by omega)
          have hqh : q ≠ h := by intro e; have h1 := hp10.out.1; rw [e, HH10.out] at h1; injection h1 with h1; injection h1 with _ h1; exact absurd h1 (by decide)
          clear c0 c1 hk10
          go_upto_region 13 with (fail)
          generalize (w10.setCell ⟨h, 3, none⟩ (.int .i64 o7)) = w11 at HP11 HH11 HZ11 HV11 HW11 ⊢
          by_cases h70 : τ7.e = 0
          · skip
            obtain ⟨t7, e7⟩ := τ7
            simp only at h70
            subst h70
            have cq0 : w11.cell? ⟨q, 0, none⟩ = some (.pointer (some ⟨b, 0, none⟩)) := blk_cell HP11.out.1 0
            have cq1 : w11.cell? ⟨q, 1, none⟩ = some (.int .i64 0) := blk_cell HP11.out.1 1
            have yq1 : w11.frozen? ⟨q, 1, none⟩ = false := blk_frozen HP11.out.1 1
            obtain ⟨-, l', pos, hr', hby', hd'⟩ := HP11.out
            simp only at hd'
            have hdn := fun W h => Lib.hid (octDone b l' pos W h)
            have hdl : t7.length = l'.length - pos := by rw [← hd', List.length_drop]
            have HR' := Lib.hid hr'
            clear hr' hby' hd'
            by_cases ht : 0 < t7.length
            · have hpl : pos < l'.length := by omega
              simp only [if_pos hpl] at hdn
              have HDE : Hid (decC l = (⟨0, 0, [], 0⟩, 5)) := Lib.hid (dec_tail HLN.out HD7.out rfl ht)
              clear hdl hpl ht
              go_wp2_with fail
              refine use_b (hdn _ HR'.out).out ?_
              intro w12 hb12
              have HP12 := Lib.hid (HP11.out.below hb12.out)
              have HH12 := Lib.hid (blk_below HH11.out hb12.out)
              have HZ12 := Lib.hid (blk_below HZ11.out hb12.out)
              have HV12 := Lib.hid (HV11.out.below hb12.out)
              have HW12 := Lib.hid (bl_tr HW11.out hb12.out)
              have cq0 : w12.cell? ⟨q, 0, none⟩ = some (.pointer (some ⟨b, 0, none⟩)) := blk_cell HP12.out.1 0
              have cq1 : w12.cell? ⟨q, 1, none⟩ = some (.int .i64 0) := blk_cell HP12.out.1 1
              have yq1 : w12.frozen? ⟨q, 1, none⟩ = false := blk_frozen HP12.out.1 1
              have HK13 := Lib.hid ((Kp.refl (· = q) w12).set (p := ⟨q, 1, none⟩) rfl (.int .i64 5))
              have HP13 : Hid (PRd (w12.setCell ⟨q, 1, none⟩ (.int .i64 5)) q b ⟨t7, 5⟩) := HP12.out.set 5
              have HH13 : Hid ((w12.setCell ⟨q, 1, none⟩ (.int .i64 5)).heap[h]? = some (.cells #[.int .i64 f, .int .i64 d, .slice Av acc.length cv, .int .i64 o7] 64 (0, 0))) := HK13.out.blk (Ne.symm hqh) HH12.out
              have HZ13 : Hid ((w12.setCell ⟨q, 1, none⟩ (.int .i64 5)).heap[w.heap.size]? = some (.cells #[.int .i64 0, .int .i64 0, .slice none 0 0, .int .i64 0] 64 (0, 0))) := HK13.out.blk (by omega) HZ12.out
              have HV13 : Hid (OwN (w12.setCell ⟨q, 1, none⟩ (.int .i64 5)) w.heap.size (.slice Av acc.length cv) acc) := HV12.out.kp HK13.out (fun g hg e => HV12.out.ne HP12.out.1 (by decide) (by rw [hg, e]))
              have HW13 : Hid (Below w.heap.size w (w12.setCell ⟨q, 1, none⟩ (.int .i64 5))) := bl_kp HW12.out HK13.out (fun k hk => by omega)
              go_upto_region 15 with (fail)
              generalize (w12.setCell ⟨q, 1, none⟩ (.int .i64 5)) = w13 at HP13 HH13 HZ13 HV13 HW13 ⊢
              have t0 : w13.cell? ⟨w.heap.size, 0, none⟩ = some (.int .i64 0) := blk_cell HZ13.out 0
              have t1 : w13.cell? ⟨w.heap.size, 1, none⟩ = some (.int .i64 0) := blk_cell HZ13.out 1
              have t2 : w13.cell? ⟨w.heap.size, 2, none⟩ = some (.slice none 0 0) := blk_cell HZ13.out 2
              have t3 : w13.cell? ⟨w.heap.size, 3, none⟩ = some (.int .i64 0) := blk_cell HZ13.out 3
              have z0 : w13.frozen? ⟨w.heap.size, 0, none⟩ = false := blk_frozen HZ13.out 0
              have z1 : w13.frozen? ⟨w.heap.size, 1, none⟩ = false := blk_frozen HZ13.out 1
              have z2 : w13.frozen? ⟨w.heap.size, 2, none⟩ = false := blk_frozen HZ13.out 2
              have z3 : w13.frozen? ⟨w.heap.size, 3, none⟩ = false := blk_frozen HZ13.out 3
              have cq : w13.cell? ⟨q, 1, none⟩ = some (.int .i64 5) := blk_cell HP13.out.1 1
              have KQ : Hid (∀ W' : World, Kp (· = w.heap.size) w13 W' → W'.cell? ⟨q, 1, none⟩ = some (.int .i64 5)) := fun W' hk => hk.cell (by simp; omega) cq
              go_wp2_with fail
              go_region_held3 (fun W' => W'.cell? ⟨q, 1, none⟩ = some (.int .i64 5)) (first | (refine KQ.out _ ?_; (repeat (first | exact Kp.refl _ _ | apply Kp.drew | apply Kp.drewN | (refine Kp.set ?_ (by rfl) _))); done) | go_keep | fail) (fail)
              go_wp2
              have hkz := (((((Kp.refl (· = w.heap.size) w13).set (p := ⟨w.heap.size, 0, none⟩) rfl (.int .i64 0)).set (p := ⟨w.heap.size, 1, none⟩) rfl (.int .i64 0)).set (p := ⟨w.heap.size, 2, none⟩) rfl (.slice none 0 0)).set (p := ⟨w.heap.size, 3, none⟩) rfl (.int .i64 0))
              refine bodyPost_ret (v := .tuple #[.agg #[.int .i64 0, .int .i64 0, .slice none 0 0, .int .i64 0], .int .i64 5]) (by simp [results, Try.results45, go_sem, t0, t1, t2, t3]) rfl ?_
              rw [HDE.out]
              exact ⟨_, rfl, OwN.nil _ _, bl_drewN (bl_kp HW13.out hkz (fun k hk => by omega)) _⟩
            · have hpl : ¬ pos < l'.length := by omega
              simp only [if_neg hpl] at hdn
              have ht0 := Lib.hid ht
              clear hdl hpl ht
              go_wp2_with fail
              refine use_b (hdn _ HR'.out).out ?_
              intro w12 hb12
              have HP12 := Lib.hid (HP11.out.below hb12.out)
              have HH12 := Lib.hid (blk_below HH11.out hb12.out)
              have HZ12 := Lib.hid (blk_below HZ11.out hb12.out)
              have HV12 := Lib.hid (HV11.out.below hb12.out)
              have HW12 := Lib.hid (bl_tr HW11.out hb12.out)
              have cq0 : w12.cell? ⟨q, 0, none⟩ = some (.pointer (some ⟨b, 0, none⟩)) := blk_cell HP12.out.1 0
              have cq1 : w12.cell? ⟨q, 1, none⟩ = some (.int .i64 0) := blk_cell HP12.out.1 1
              have yq1 : w12.frozen? ⟨q, 1, none⟩ = false := blk_frozen HP12.out.1 1
              have HK13 := Lib.hid ((Kp.refl (· = q) w12).set (p := ⟨q, 1, none⟩) rfl (.int .i64 0))
              have HP13 : Hid (PRd (w12.setCell ⟨q, 1, none⟩ (.int .i64 0)) q b ⟨t7, 0⟩) := HP12.out.set 0
              have HH13 : Hid ((w12.setCell ⟨q, 1, none⟩ (.int .i64 0)).heap[h]? = some (.cells #[.int .i64 f, .int .i64 d, .slice Av acc.length cv, .int .i64 o7] 64 (0, 0))) := HK13.out.blk (Ne.symm hqh) HH12.out
              have HZ13 : Hid ((w12.setCell ⟨q, 1, none⟩ (.int .i64 0)).heap[w.heap.size]? = some (.cells #[.int .i64 0, .int .i64 0, .slice none 0 0, .int .i64 0] 64 (0, 0))) := HK13.out.blk (by omega) HZ12.out
              have HV13 : Hid (OwN (w12.setCell ⟨q, 1, none⟩ (.int .i64 0)) w.heap.size (.slice Av acc.length cv) acc) := HV12.out.kp HK13.out (fun g hg e => HV12.out.ne HP12.out.1 (by decide) (by rw [hg, e]))
              have HW13 : Hid (Below w.heap.size w (w12.setCell ⟨q, 1, none⟩ (.int .i64 0))) := bl_kp HW12.out HK13.out (fun k hk => by omega)
              go_upto_region 15 with (fail)
              generalize (w12.setCell ⟨q, 1, none⟩ (.int .i64 0)) = w13 at HP13 HH13 HZ13 HV13 HW13 ⊢
              clear cq0 cq1 yq1
              have cq0 : w13.cell? ⟨q, 0, none⟩ = some (.pointer (some ⟨b, 0, none⟩)) := blk_cell HP13.out.1 0
              have cq1 : w13.cell? ⟨q, 1, none⟩ = some (.int .i64 0) := blk_cell HP13.out.1 1
              have yq1 : w13.frozen? ⟨q, 1, none⟩ = false := blk_frozen HP13.out.1 1
              have x0 : w13.cell? ⟨h, 0, none⟩ = some (.int .i64 f) := blk_cell HH13.out 0
              have x1 : w13.cell? ⟨h, 1, none⟩ = some (.int .i64 d) := blk_cell HH13.out 1
              have x2 : w13.cell? ⟨h, 2, none⟩ = some (.slice Av acc.length cv) := blk_cell HH13.out 2
              have x3 : w13.cell? ⟨h, 3, none⟩ = some (.int .i64 o7) := blk_cell HH13.out 3
              have HWF : Hid (wfL acc) := Lib.hid (by have := d6_wf HB.out; rw [HD6.out] at this; exact this)
              have hchk := fun W h => Lib.hid (check_any f d Av cv acc.length acc o7 W h rfl HWF.out)
              have HRA : Hid (RdN w13 Av acc) := Lib.hid (by obtain ⟨A', c', e, -, -, h⟩ := HV13.out.rd; injection e with e1; subst e1; exact h)
              cases hmay : mayC f d acc o7 with
              | true =>
                rw [hmay] at hchk
                have HDE : Hid (decC l = (⟨f, d, acc, o7⟩, 0)) := Lib.hid (dec_fin HLN.out D2.out D3.out HD6.out HD7.out rfl ht0.out hmay)
                clear hmay
                go_wp2_with fail
                refine use_b (hchk _ HRA.out).out ?_
                intro w14 hb14
                unfold CodErr
                have HP14 := Lib.hid (HP13.out.below hb14.out)
                have HH14 := Lib.hid (blk_below HH13.out hb14.out)
                have HZ14 := Lib.hid (blk_below HZ13.out hb14.out)
                have HV14 := Lib.hid (HV13.out.below hb14.out)
                have HW14 := Lib.hid (bl_tr HW13.out hb14.out)
                clear cq0 cq1 yq1 x0 x1 x2 x3
                have cq0 : w14.cell? ⟨q, 0, none⟩ = some (.pointer (some ⟨b, 0, none⟩)) := blk_cell HP14.out.1 0
                have cq1 : w14.cell? ⟨q, 1, none⟩ = some (.int .i64 0) := blk_cell HP14.out.1 1
                have yq1 : w14.frozen? ⟨q, 1, none⟩ = false := blk_frozen HP14.out.1 1
                have HK15 := Lib.hid ((Kp.refl (· = q) w14).set (p := ⟨q, 1, none⟩) rfl (.int .i64 0))
                have HP15 : Hid (PRd (w14.setCell ⟨q, 1, none⟩ (.int .i64 0)) q b ⟨t7, 0⟩) := HP14.out.set 0
                have HH15 : Hid ((w14.setCell ⟨q, 1, none⟩ (.int .i64 0)).heap[h]? = some (.cells #[.int .i64 f, .int .i64 d, .slice Av acc.length cv, .int .i64 o7] 64 (0, 0))) := HK15.out.blk (Ne.symm hqh) HH14.out
                have HZ15 : Hid ((w14.setCell ⟨q, 1, none⟩ (.int .i64 0)).heap[w.heap.size]? = some (.cells #[.int .i64 0, .int .i64 0, .slice none 0 0, .int .i64 0] 64 (0, 0))) := HK15.out.blk (by omega) HZ14.out
                have HV15 : Hid (OwN (w14.setCell ⟨q, 1, none⟩ (.int .i64 0)) w.heap.size (.slice Av acc.length cv) acc) := HV14.out.kp HK15.out (fun g hg e => HV14.out.ne HP14.out.1 (by decide) (by rw [hg, e]))
                have HW15 : Hid (Below w.heap.size w (w14.setCell ⟨q, 1, none⟩ (.int .i64 0))) := bl_kp HW14.out HK15.out (fun k hk => by omega)
                go_upto_region 17 with (fail)
                generalize (w14.setCell ⟨q, 1, none⟩ (.int .i64 0)) = w15 at HP15 HH15 HZ15 HV15 HW15 ⊢
                clear cq0 cq1 yq1
                have x0 : w15.cell? ⟨h, 0, none⟩ = some (.int .i64 f) := blk_cell HH15.out 0
                have x1 : w15.cell? ⟨h, 1, none⟩ = some (.int .i64 d) := blk_cell HH15.out 1
                have x2 : w15.cell? ⟨h, 2, none⟩ = some (.slice Av acc.length cv) := blk_cell HH15.out 2
                have x3 : w15.cell? ⟨h, 3, none⟩ = some (.int .i64 o7) := blk_cell HH15.out 3
                have t0 : w15.cell? ⟨w.heap.size, 0, none⟩ = some (.int .i64 0) := blk_cell HZ15.out 0
                have t1 : w15.cell? ⟨w.heap.size, 1, none⟩ = some (.int .i64 0) := blk_cell HZ15.out 1
                have t2 : w15.cell? ⟨w.heap.size, 2, none⟩ = some (.slice none 0 0) := blk_cell HZ15.out 2
                have t3 : w15.cell? ⟨w.heap.size, 3, none⟩ = some (.int .i64 0) := blk_cell HZ15.out 3
                have z0 : w15.frozen? ⟨w.heap.size, 0, none⟩ = false := blk_frozen HZ15.out 0
                have z1 : w15.frozen? ⟨w.heap.size, 1, none⟩ = false := blk_frozen HZ15.out 1
                have z2 : w15.frozen? ⟨w.heap.size, 2, none⟩ = false := blk_frozen HZ15.out 2
                have z3 : w15.frozen? ⟨w.heap.size, 3, none⟩ = false := blk_frozen HZ15.out 3
                have cq0 : w15.cell? ⟨q, 0, none⟩ = some (.pointer (some ⟨b, 0, none⟩)) := blk_cell HP15.out.1 0
                have cq1 : w15.cell? ⟨q, 1, none⟩ = some (.int .i64 0) := blk_cell HP15.out.1 1
                have yq1 : w15.frozen? ⟨q, 1, none⟩ = false := blk_frozen HP15.out.1 1
                clear yq1 cq0
                go_wp2
                have hkz := (((((Kp.refl (· = w.heap.size) w15).set (p := ⟨w.heap.size, 0, none⟩) rfl (.int .i64 f)).set (p := ⟨w.heap.size, 1, none⟩) rfl (.int .i64 d)).set (p := ⟨w.heap.size, 2, none⟩) rfl (.slice Av acc.length cv)).set (p := ⟨w.heap.size, 3, none⟩) rfl (.int .i64 o7))
                refine bodyPost_ret (v := .tuple #[.agg #[.int .i64 f, .int .i64 d, .slice Av acc.length cv, .int .i64 o7], .int .i64 0]) (by simp [results, Try.results45, go_sem, t0, t1, t2, t3]) rfl ?_
                rw [HDE.out]
                exact ⟨_, rfl, HV15.out.kp hkz (fun g hg e => HV15.out.ne HZ15.out (by decide) (by rw [hg, e])), bl_kp HW15.out hkz (fun k hk => by omega)⟩
              | false =>
                rw [hmay] at hchk
                have HDE : Hid (decC l = (⟨0, 0, [], 0⟩, 15)) := Lib.hid (dec_bad HLN.out D2.out D3.out HD6.out HD7.out rfl ht0.out hmay)
                clear hmay
                go_wp2_with fail
                refine use_b (hchk _ HRA.out).out ?_
                intro w14 hb14
                unfold CodErr
                have HP14 := Lib.hid (HP13.out.below hb14.out)
                have HH14 := Lib.hid (blk_below HH13.out hb14.out)
                have HZ14 := Lib.hid (blk_below HZ13.out hb14.out)
                have HV14 := Lib.hid (HV13.out.below hb14.out)
                have HW14 := Lib.hid (bl_tr HW13.out hb14.out)
                clear cq0 cq1 yq1 x0 x1 x2 x3
                have cq0 : w14.cell? ⟨q, 0, none⟩ = some (.pointer (some ⟨b, 0, none⟩)) := blk_cell HP14.out.1 0
                have cq1 : w14.cell? ⟨q, 1, none⟩ = some (.int .i64 0) := blk_cell HP14.out.1 1
                have yq1 : w14.frozen? ⟨q, 1, none⟩ = false := blk_frozen HP14.out.1 1
                have HK15 := Lib.hid ((Kp.refl (· = q) w14).set (p := ⟨q, 1, none⟩) rfl (.int .i64 15))
                have HP15 : Hid (PRd (w14.setCell ⟨q, 1, none⟩ (.int .i64 15)) q b ⟨t7, 15⟩) := HP14.out.set 15
                have HH15 : Hid ((w14.setCell ⟨q, 1, none⟩ (.int .i64 15)).heap[h]? = some (.cells #[.int .i64 f, .int .i64 d, .slice Av acc.length cv, .int .i64 o7] 64 (0, 0))) := HK15.out.blk (Ne.symm hqh) HH14.out
                have HZ15 : Hid ((w14.setCell ⟨q, 1, none⟩ (.int .i64 15)).heap[w.heap.size]? = some (.cells #[.int .i64 0, .int .i64 0, .slice none 0 0, .int .i64 0] 64 (0, 0))) := HK15.out.blk (by omega) HZ14.out
                have HV15 : Hid (OwN (w14.setCell ⟨q, 1, none⟩ (.int .i64 15)) w.heap.size (.slice Av acc.length cv) acc) := HV14.out.kp HK15.out (fun g hg e => HV14.out.ne HP14.out.1 (by decide) (by rw [hg, e]))
                have HW15 : Hid (Below w.heap.size w (w14.setCell ⟨q, 1, none⟩ (.int .i64 15))) := bl_kp HW14.out HK15.out (fun k hk => by omega)
                go_upto_region 17 with (fail)
                generalize (w14.setCell ⟨q, 1, none⟩ (.int .i64 15)) = w15 at HP15 HH15 HZ15 HV15 HW15 ⊢
                clear cq0 cq1 yq1
                have t0 : w15.cell? ⟨w.heap.size, 0, none⟩ = some (.int .i64 0) := blk_cell HZ15.out 0
                have t1 : w15.cell? ⟨w.heap.size, 1, none⟩ = some (.int .i64 0) := blk_cell HZ15.out 1
                have t2 : w15.cell? ⟨w.heap.size, 2, none⟩ = some (.slice none 0 0) := blk_cell HZ15.out 2
                have t3 : w15.cell? ⟨w.heap.size, 3, none⟩ = some (.int .i64 0) := blk_cell HZ15.out 3
                have z0 : w15.frozen? ⟨w.heap.size, 0, none⟩ = false := blk_frozen HZ15.out 0
                have z1 : w15.frozen? ⟨w.heap.size, 1, none⟩ = false := blk_frozen HZ15.out 1
                have z2 : w15.frozen? ⟨w.heap.size, 2, none⟩ = false := blk_frozen HZ15.out 2
                have z3 : w15.frozen? ⟨w.heap.size, 3, none⟩ = false := blk_frozen HZ15.out 3
                have cq : w15.cell? ⟨q, 1, none⟩ = some (.int .i64 15) := blk_cell HP15.out.1 1
                have KQ : Hid (∀ W' : World, Kp (· = w.heap.size) w15 W' → W'.cell? ⟨q, 1, none⟩ = some (.int .i64 15)) := fun W' hk => hk.cell (by simp; omega) cq
                go_wp2_with fail
                go_region_held3 (fun W' => W'.cell? ⟨q, 1, none⟩ = some (.int .i64 15)) (first | (refine KQ.out _ ?_; (repeat (first | exact Kp.refl _ _ | apply Kp.drew | apply Kp.drewN | (refine Kp.set ?_ (by rfl) _))); done) | go_keep | fail) (fail)
                go_wp2
                have hkz := (((((Kp.refl (· = w.heap.size) w15).set (p := ⟨w.heap.size, 0, none⟩) rfl (.int .i64 0)).set (p := ⟨w.heap.size, 1, none⟩) rfl (.int .i64 0)).set (p := ⟨w.heap.size, 2, none⟩) rfl (.slice none 0 0)).set (p := ⟨w.heap.size, 3, none⟩) rfl (.int .i64 0))
                refine bodyPost_ret (v := .tuple #[.agg #[.int .i64 0, .int .i64 0, .slice none 0 0, .int .i64 0], .int .i64 15]) (by simp [results, Try.results45, go_sem, t0, t1, t2, t3]) rfl ?_
                rw [HDE.out]
                exact ⟨_, rfl, OwN.nil _ _, bl_drewN (bl_kp HW15.out hkz (fun k hk => by omega)) _⟩
          · skip
            have hne : (τ7.e == 0) = false := by simpa using h70
            have hne2 : (τ7.e != 0) = true := by rw [bne_iff_ne]; exact h70
            have HDE : Hid (decC l = (⟨0, 0, [], 0⟩, τ7.e)) := Lib.hid (dec_err HLN.out HD7.out h70)
            clear h70
            have cq1 : w11.cell? ⟨q, 1, none⟩ = some (.int .i64 τ7.e) := blk_cell HP11.out.1 1
            have t0 : w11.cell? ⟨w.heap.size, 0, none⟩ = some (.int .i64 0) := blk_cell HZ11.out 0
            have t1 : w11.cell? ⟨w.heap.size, 1, none⟩ = some (.int .i64 0) := blk_cell HZ11.out 1
            have t2 : w11.cell? ⟨w.heap.size, 2, none⟩ = some (.slice none 0 0) := blk_cell HZ11.out 2
            have t3 : w11.cell? ⟨w.heap.size, 3, none⟩ = some (.int .i64 0) := blk_cell HZ11.out 3
            have z0 : w11.frozen? ⟨w.heap.size, 0, none⟩ = false := blk_frozen HZ11.out 0
            have z1 : w11.frozen? ⟨w.heap.size, 1, none⟩ = false := blk_frozen HZ11.out 1
            have z2 : w11.frozen? ⟨w.heap.size, 2, none⟩ = false := blk_frozen HZ11.out 2
            have z3 : w11.frozen? ⟨w.heap.size, 3, none⟩ = false := blk_frozen HZ11.out 3
            have cq : w11.cell? ⟨q, 1, none⟩ = some (.int .i64 τ7.e) := blk_cell HP11.out.1 1
            have KQ : Hid (∀ W' : World, Kp (· = w.heap.size) w11 W' → W'.cell? ⟨q, 1, none⟩ = some (.int .i64 τ7.e)) := fun W' hk => hk.cell (by simp; omega) cq
            go_wp2_with fail
            go_region_held3 (fun W' => W'.cell? ⟨q, 1, none⟩ = some (.int .i64 τ7.e)) (first | (refine KQ.out _ ?_; (repeat (first | exact Kp.refl _ _ | apply Kp.drew | apply Kp.drewN | (refine Kp.set ?_ (by rfl) _))); done) | go_keep | fail) (fail)
            go_wp2
            have hkz := (((((Kp.refl (· = w.heap.size) w11).set (p := ⟨w.heap.size, 0, none⟩) rfl (.int .i64 0)).set (p := ⟨w.heap.size, 1, none⟩) rfl (.int .i64 0)).set (p := ⟨w.heap.size, 2, none⟩) rfl (.slice none 0 0)).set (p := ⟨w.heap.size, 3, none⟩) rfl (.int .i64 0))
            refine bodyPost_ret (v := .tuple #[.agg #[.int .i64 0, .int .i64 0, .slice none 0 0, .int .i64 0], .int .i64 τ7.e]) (by simp [results, Try.results45, go_sem, t0, t1, t2, t3]) rfl ?_
            rw [HDE.out]
            exact ⟨_, rfl, OwN.nil _ _, bl_drewN (bl_kp HW11.out hkz (fun k hk => by omega)) _⟩
        · skip
          obtain ⟨⟨o7, τ7⟩, h7⟩ : ∃ r, τ.reg m = r := ⟨_, rfl⟩
          have hreg := fun W h => Lib.hid (prReg q b τ m W h m0 m1)
          rw [h7] at hreg
          have HD6 : Hid (d6 l = (acc, τ)) := Lib.hid (by rw [D6.out, show m.toNat = k by omega]; exact Prod.ext HA.out HT.out)
          have HD7 : Hid (d7 l = (o7, τ7)) := Lib.hid (by rw [D7.out, HD6.out]; exact h7)
          obtain ⟨e7a, e7b⟩ := reg_stop (p := m) he
          rw [h7] at e7a e7b
          simp only at e7a e7b
          subst e7a
          clear e7b
          have hne : (τ7.e == 0) = false := by simpa using he
          have hne2 : (τ7.e != 0) = true := by rw [bne_iff_ne]; exact he
          have HDE : Hid (decC l = (⟨0, 0, [], 0⟩, τ7.e)) := Lib.hid (dec_err HLN.out HD7.out he)
          clear he
          clear h7
          go_wp2_with fail
          refine use_pr (hreg _ HP.out).out ?_
          intro w10 hp10 hk10
          simp only at hp10 ⊢
          have HH10 := Lib.hid (blk_pr HH.out (by decide) (by decide) HP.out hk10.out)
          have HZ10 := Lib.hid (blk_pr HZ.out (by decide) (by decide) HP.out hk10.out)
          have HV10 := Lib.hid (OwN.pr HV.out HP.out hk10.out)
          have HW10 := Lib.hid (bl_pr HW.out hk10.out hqw hbw)
          have x3 : w10.cell? ⟨h, 3, none⟩ = some (.int .i64 0) := blk_cell HH10.out 3
          have y3 : w10.frozen? ⟨h, 3, none⟩ = false := blk_frozen HH10.out 3
          have HK11 := Lib.hid ((Kp.refl (· = h) w10).set (p := ⟨h, 3, none⟩) rfl (.int .i64 o7))
          have HP11 : Hid (PRd (w10.setCell ⟨h, 3, none⟩ (.int .i64 o7)) q b τ7) := hp10.out.far HH10.out (by decide) (by decide) (by decide) HK11.out
          have HH11 : Hid ((w10.setCell ⟨h, 3, none⟩ (.int .i64 o7)).heap[h]? = some (.cells #[.int .i64 f, .int .i64 d, .slice Av acc.length cv, .int .i64 o7] 64 (0, 0))) := blk_set HH10.out 3 _
          have HZ11 : Hid ((w10.setCell ⟨h, 3, none⟩ (.int .i64 o7)).heap[w.heap.size]? = some (.cells #[.int .i64 0, .int .i64 0, .slice none 0 0, .int .i64 0] 64 (0, 0))) := HK11.out.blk (by omega) HZ10.out
          have HV11 : Hid (OwN (w10.setCell ⟨h, 3, none⟩ (.int .i64 o7)) w.heap.size (.slice Av acc.length cv) acc) := HV10.out.kp HK11.out (fun g hg e => HV10.out.ne HH10.out (by decide) (by rw [hg, e]))
          have HW11 : Hid (Below w.heap.size w (w10.setCell ⟨h, 3, none⟩ (.int .i64 o7))) := bl_kp HW10.out HK11.out (fun k hk => by omega)
          have hqh : q ≠ h := by intro e; have h1 := hp10.out.1; rw [e, HH10.out] at h1; injection h1 with h1; injection h1 with _ h1; exact absurd h1 (by decide)
          clear c0 c1 hk10
          go_upto_region 13 with (fail)
          generalize (w10.setCell ⟨h, 3, none⟩ (.int .i64 o7)) = w11 at HP11 HH11 HZ11 HV11 HW11 ⊢
          have cq1 : w11.cell? ⟨q, 1, none⟩ = some (.int .i64 τ7.e) := blk_cell HP11.out.1 1
          have t0 : w11.cell? ⟨w.heap.size, 0, none⟩ = some (.int .i64 0) := blk_cell HZ11.out 0
          have t1 : w11.cell? ⟨w.heap.size, 1, none⟩ = some (.int .i64 0) := blk_cell HZ11.out 1
          have t2 : w11.cell? ⟨w.heap.size, 2, none⟩ = some (.slice none 0 0) := blk_cell HZ11.out 2
          have t3 : w11.cell? ⟨w.heap.size, 3, none⟩ = some (.int .i64 0) := blk_cell HZ11.out 3
          have z0 : w11.frozen? ⟨w.heap.size, 0, none⟩ = false := blk_frozen HZ11.out 0
          have z1 : w11.frozen? ⟨w.heap.size, 1, none⟩ = false := blk_frozen HZ11.out 1
          have z2 : w11.frozen? ⟨w.heap.size, 2, none⟩ = false := blk_frozen HZ11.out 2
          have z3 : w11.frozen? ⟨w.heap.size, 3, none⟩ = false := blk_frozen HZ11.out 3
          have cq : w11.cell? ⟨q, 1, none⟩ = some (.int .i64 τ7.e) := blk_cell HP11.out.1 1
          have KQ : Hid (∀ W' : World, Kp (· = w.heap.size) w11 W' → W'.cell? ⟨q, 1, none⟩ = some (.int .i64 τ7.e)) := fun W' hk => hk.cell (by simp; omega) cq
          go_wp2_with fail
          go_region_held3 (fun W' => W'.cell? ⟨q, 1, none⟩ = some (.int .i64 τ7.e)) (first | (refine KQ.out _ ?_; (repeat (first | exact Kp.refl _ _ | apply Kp.drew | apply Kp.drewN | (refine Kp.set ?_ (by rfl) _))); done) | go_keep | fail) (fail)
          go_wp2
          have hkz := (((((Kp.refl (· = w.heap.size) w11).set (p := ⟨w.heap.size, 0, none⟩) rfl (.int .i64 0)).set (p := ⟨w.heap.size, 1, none⟩) rfl (.int .i64 0)).set (p := ⟨w.heap.size, 2, none⟩) rfl (.slice none 0 0)).set (p := ⟨w.heap.size, 3, none⟩) rfl (.int .i64 0))
          refine bodyPost_ret (v := .tuple #[.agg #[.int .i64 0, .int .i64 0, .slice none 0 0, .int .i64 0], .int .i64 τ7.e]) (by simp [results, Try.results45, go_sem, t0, t1, t2, t3]) rfl ?_
          rw [HDE.out]
          exact ⟨_, rfl, OwN.nil _ _, bl_drewN (bl_kp HW11.out hkz (fun k hk => by omega)) _⟩
end Go.Proofs.Ytehcimecmbcdfaa
