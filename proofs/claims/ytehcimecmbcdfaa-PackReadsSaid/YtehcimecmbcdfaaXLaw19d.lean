/- The walks of the laws PackOne and PackCut. -/
import Derived.Test.YtehcimecmbcdfaaXLaw19c
set_option linter.unusedSimpArgs false
set_option linter.unusedVariables false
namespace Go.Proofs.Ytehcimecmbcdfaa
open Go.RowKit

theorem decC_wf {l : List Int} (h : Byt l) : wfL (decC l).1.l := by
  unfold decC
  split
  · intro n hn; simp at hn
  · split
    · exact d6_wf h
    · intro n hn; simp at hn
theorem RdNS.rdN {w : World} {A : Option Addr} {n c : Nat} {l : List Ins} (h : RdNS w (.slice A n c) l) : RdN w A l := by
  obtain ⟨A', c', e, -, -, h⟩ := h
  injection e with e1
  subst e1
  exact h
set_option maxRecDepth 20000 in
set_option maxHeartbeats 1000000 in
theorem wPackOne (v : Value) (l : List Int) (w : World) (hr : RdS w .u8 v l) (hby : Byt l) :
    Calls Try.prog 13 #[v] w fun e w' => e = .returned (.bool true) ∧ Below w.heap.size w w' := by
  have HR := Lib.hid hr
  have HBY := Lib.hid hby
  obtain ⟨⟨c, e⟩, hd⟩ : ∃ r, decC l = r := ⟨_, rfl⟩
  have HD : Hid (Calls Try.prog 45 #[v] w (DecPost w (c, e))) := Lib.hid (by have := decode_any v l w hr hby; rw [hd] at this; exact this)
  have hk := eq_kind
  by_cases he : e = 0
  · subst he
    obtain ⟨hm, henc⟩ := decC_one hby hd
    have hwf := decC_wf hby
    rw [hd] at hwf
    have HE : Hid (∀ A n cp W, n = c.l.length → RdN W A c.l → Calls Try.prog 41 #[.agg #[.int .i64 c.f, .int .i64 c.d, .slice A n cp, .int .i64 c.out]] W (OwnPost2 W 5 .u8 l 0)) := fun A n cp W hn h => by
      have := enc_yes c.f c.d A cp n c.l c.out W h hn.symm hwf hm
      rw [henc] at this
      exact this
    clear hr hby hd hm henc hwf
    go_enter Try.func13, Try.ntmps13
    go_wp2_with fail
    refine use_dec HD.out ?_
    intro A1 n1 c1 w1 hn1 hb1 ho1
    have HT1 : Hid ((w1.alloc (.cells #[.int .i64 c.f, .int .i64 c.d, .slice A1 n1 c1, .int .i64 c.out] 64)).heap[w1.heap.size]? = some (.cells #[.int .i64 c.f, .int .i64 c.d, .slice A1 n1 c1, .int .i64 c.out] 64)) := blk_new w1 _
    go_wp2_with fail
    refine use_b (awake19 _) ?_
    intro w2 hb2
    have HT2 : Hid (w2.heap[w1.heap.size]? = some (.cells #[.int .i64 c.f, .int .i64 c.d, .slice A1 n1 c1, .int .i64 c.out] 64)) := blk_below HT1.out hb2.out
    have HB2 := Lib.hid (bl_tr (bl_alloc hb1.out (.cells #[.int .i64 c.f, .int .i64 c.d, .slice A1 n1 c1, .int .i64 c.out] 64)) hb2.out)
    have q0 : w2.cell? ⟨w1.heap.size, 0, none⟩ = some (.int .i64 c.f) := blk_cell HT2.out 0
    have q1 : w2.cell? ⟨w1.heap.size, 1, none⟩ = some (.int .i64 c.d) := blk_cell HT2.out 1
    have q2 : w2.cell? ⟨w1.heap.size, 2, none⟩ = some (.slice A1 n1 c1) := blk_cell HT2.out 2
    have q3 : w2.cell? ⟨w1.heap.size, 3, none⟩ = some (.int .i64 c.out) := blk_cell HT2.out 3
    go_wp2_with fail
    refine use_own2 (HE.out _ _ _ _ hn1.out (RdN.below ((ho1.out.below (bl1 _)).below hb2.out).rd.rdN (Below.refl _ _))) ?_
    intro v3 w3 hb3 ho3
    go_wp2_with fail
    refine use_b (same_any _ _ l l _ ho3.out.rd (HR.out.below (bl_tr HB2.out hb3.out))) ?_
    rw [decide_eq_true rfl]
    intro w4 hb4
    go_wp2
    go_ret
    exact ⟨by first | rfl | (simp; done), bl_tr HB2.out (bl_tr hb3.out hb4.out)⟩
  · obtain rfl := decC_err hd he
    have e1 : (e == 0) = false := by simpa using he
    have e2 : (e != 0) = true := by rw [bne_iff_ne]; exact he
    clear hr hby hd he
    go_enter Try.func13, Try.ntmps13
    go_wp2_with fail
    refine use_dec HD.out ?_
    intro A1 n1 c1 w1 hn1 hb1 ho1
    have hn0 : Hid (n1 = 0) := hn1
    clear hn1
    obtain rfl := hn0.out
    have HT1 : Hid ((w1.alloc (.cells #[.int .i64 0, .int .i64 0, .slice A1 0 c1, .int .i64 0] 64)).heap[w1.heap.size]? = some (.cells #[.int .i64 0, .int .i64 0, .slice A1 0 c1, .int .i64 0] 64)) := blk_new w1 _
    go_wp2_with fail
    refine use_b (awake19 _) ?_
    intro w2 hb2
    have HT2 : Hid (w2.heap[w1.heap.size]? = some (.cells #[.int .i64 0, .int .i64 0, .slice A1 0 c1, .int .i64 0] 64)) := blk_below HT1.out hb2.out
    go_wp2_with fail
    refine use_b (awake19 _) ?_
    intro w3 hb3
    have HT3 : Hid (w3.heap[w1.heap.size]? = some (.cells #[.int .i64 0, .int .i64 0, .slice A1 0 c1, .int .i64 0] 64)) := blk_below HT2.out hb3.out
    have HB3 := Lib.hid (bl_tr (bl_tr (bl_alloc hb1.out (.cells #[.int .i64 0, .int .i64 0, .slice A1 0 c1, .int .i64 0] 64)) hb2.out) hb3.out)
    have q0 : w3.cell? ⟨w1.heap.size, 0, none⟩ = some (.int .i64 0) := blk_cell HT3.out 0
    have q1 : w3.cell? ⟨w1.heap.size, 1, none⟩ = some (.int .i64 0) := blk_cell HT3.out 1
    have q2 : w3.cell? ⟨w1.heap.size, 2, none⟩ = some (.slice A1 0 c1) := blk_cell HT3.out 2
    have q3 : w3.cell? ⟨w1.heap.size, 3, none⟩ = some (.int .i64 0) := blk_cell HT3.out 3
    go_wp2
    go_ret
    exact ⟨by first | rfl | (simp; done), HB3.out⟩
end Go.Proofs.Ytehcimecmbcdfaa
