/- The walk of the law PackBack. -/
import Derived.Test.YtehcimecmbcdfaaXPackN
import Derived.Test.YtehcimecmbcdfaaXDecE
import Derived.Test.YtehcimecmbcdfaaXSameC
set_option linter.unusedSimpArgs false
set_option linter.unusedVariables false
namespace Go.Proofs.Ytehcimecmbcdfaa
open Go.RowKit

theorem decode_any (v : Value) (l : List Int) (w : World) (hr : RdS w .u8 v l) (hby : Byt l) : Calls Try.prog 45 #[v] w (DecPost w (decC l)) := by
  by_cases h : 4096 < l.length
  · exact decode_long v l w hr h
  · exact decode_short v l w hr hby (by omega)
theorem use_dec {f : FuncId} {args : Array Value} {w : World} {c : Cod} {x : Int} {R : Ending → World → Prop} (h : Calls Try.prog f args w (DecPost w (c, x)))
    (k : ∀ A n cp w1, Hid (n = c.l.length) → Hid (Below w.heap.size w w1) → Hid (OwN w1 w.heap.size (.slice A n cp) c.l) → R (.returned (.tuple #[.agg #[.int .i64 c.f, .int .i64 c.d, .slice A n cp, .int .i64 c.out], .int .i64 x])) w1) : Calls Try.prog f args w R :=
  h.mono fun e w1 ⟨v, he, h1, h2⟩ => by
    subst he
    obtain ⟨A, cp, rfl⟩ := h1.form
    exact k A _ cp w1 rfl h2 h1
set_option maxRecDepth 20000 in
set_option maxHeartbeats 1000000 in
theorem wPackBack (f d : Int) (A : Option Addr) (c N : Nat) (l : List Ins) (out : Int) (w : World) (hr : RdN w A l) (hN : l.length = N) (hw : wfL l) :
    Calls Try.prog 15 #[.agg #[.int .i64 f, .int .i64 d, .slice A N c, .int .i64 out]] w fun e w' => e = .returned (.bool true) ∧ Below w.heap.size w w' := by
  have HR := Lib.hid hr
  have HN := Lib.hid hN
  have HE : Hid (∀ W, RdN W A l → Calls Try.prog 41 #[.agg #[.int .i64 f, .int .i64 d, .slice A N c, .int .i64 out]] W (OwnPost2 W 5 .u8 (encB f d l out) (CodErr (mayC f d l out)))) := fun W h => enc_any f d A c N l out W h hN hw
  have HC : Hid (∀ W, RdN W A l → Calls Try.prog 49 #[.agg #[.int .i64 f, .int .i64 d, .slice A N c, .int .i64 out]] W (fun e w' => e = .returned (.int .i64 (CodErr (mayC f d l out))) ∧ Below W.heap.size W w')) := fun W h => check_any f d A c N l out W h hN hw
  cases hm : mayC f d l out with
  | false =>
    rw [hm] at HE HC
    have e0 : encB f d l out = [] := by unfold encB; rw [hm]; rfl
    rw [e0] at HE
    clear hr hN hw hm e0
    go_enter Try.func15, Try.ntmps15
    go_wp2_with fail
    refine use_own2 (HE.out _ (HR.out.below (bl1 _))) ?_
    unfold CodErr
    intro v1 w1 hb1 ho1
    obtain ⟨A1, c1', rfl⟩ := ho1.out.form
    go_wp2_with fail
    refine use_b (awake19 _) ?_
    intro w2 hb2
    go_wp2_with fail
    refine use_b (awake19 _) ?_
    intro w3 hb3
    have HB3 : Hid (Below (w.alloc (.cells #[.int .i64 f, .int .i64 d, .slice A N c, .int .i64 out] 64)).heap.size (w.alloc (.cells #[.int .i64 f, .int .i64 d, .slice A N c, .int .i64 out] 64)) w3) := bl_tr hb1.out (bl_tr hb2.out hb3.out)
    have p0 : w3.cell? ⟨w.heap.size, 0, none⟩ = some (.int .i64 f) := keepc HB3 (blk_cell (blk_new w _) 0)
    have p1 : w3.cell? ⟨w.heap.size, 1, none⟩ = some (.int .i64 d) := keepc HB3 (blk_cell (blk_new w _) 1)
    have p2 : w3.cell? ⟨w.heap.size, 2, none⟩ = some (.slice A N c) := keepc HB3 (blk_cell (blk_new w _) 2)
    have p3 : w3.cell? ⟨w.heap.size, 3, none⟩ = some (.int .i64 out) := keepc HB3 (blk_cell (blk_new w _) 3)
    go_wp2_with fail
    refine use_b (HC.out _ (HR.out.below (bl_tr (bl1 _) HB3.out))) ?_
    unfold CodErr
    intro w4 hb4
    go_wp2
    go_ret
    exact ⟨by first | rfl | (simp; done), bl_tr (bl1 _) (bl_tr HB3.out hb4.out)⟩
  | true =>
    rw [hm] at HE HC
    have e0 : encB f d l out = encC f d l out := by unfold encB; rw [hm]; rfl
    rw [e0] at HE
    obtain ⟨hl1, hl2⟩ := encC_len hm hw
    have HD : Hid (decC (encC f d l out) = (⟨f, d, l, out⟩, 0)) := Lib.hid (by have := decC_tail hm [] (by simpa using hl1); simpa using this)
    have HBY := Lib.hid (encC_byt hm hw)
    obtain ⟨bs, hbs⟩ : ∃ bs, encC f d l out = bs := ⟨_, rfl⟩
    rw [hbs] at HE HD HBY hl1 hl2
    obtain ⟨L, hL⟩ : ∃ L, bs.length = L := ⟨_, rfl⟩
    rw [hL] at hl1 hl2
    have HLL := Lib.hid hL
    clear hr hN hw hm e0 hbs hL
    go_enter Try.func15, Try.ntmps15
    go_wp2_with fail
    refine use_own2 (HE.out _ (HR.out.below (bl1 _))) ?_
    unfold CodErr
    intro v1 w1 hb1 ho1
    obtain ⟨A1, c1', rfl⟩ := ho1.out.form
    rw [HLL.out] at ho1 ⊢
    go_wp2_with fail
    refine use_b (awake19 _) ?_
    intro w2 hb2
    go_wp2_with fail
    refine use_dec (by have := decode_any _ bs _ (ho1.out.below hb2.out).rd HBY.out; rw [HD.out] at this; exact this) ?_
    intro A3 n3 c3 w3 hn3 hb3 ho3
    have hn3' : Hid (n3 = N) := Lib.hid (by rw [hn3.out]; exact HN.out)
    clear hn3
    obtain rfl := hn3'.out
    have HRD3 : Hid (RdN w3 A3 l) := by
      obtain ⟨A', c', e, -, -, h⟩ := ho3.out.rd
      injection e with e1
      subst e1
      exact h
    have HB3 : Hid (Below (w.alloc (.cells #[.int .i64 f, .int .i64 d, .slice A n3 c, .int .i64 out] 64)).heap.size (w.alloc (.cells #[.int .i64 f, .int .i64 d, .slice A n3 c, .int .i64 out] 64)) (w3.alloc (.cells #[.int .i64 f, .int .i64 d, .slice A3 n3 c3, .int .i64 out] 64))) := bl_tr hb1.out (bl_tr hb2.out (bl_alloc hb3.out _))
    have p0 : (w3.alloc (.cells #[.int .i64 f, .int .i64 d, .slice A3 n3 c3, .int .i64 out] 64)).cell? ⟨w.heap.size, 0, none⟩ = some (.int .i64 f) := keepc HB3 (blk_cell (blk_new w _) 0)
    have p1 : (w3.alloc (.cells #[.int .i64 f, .int .i64 d, .slice A3 n3 c3, .int .i64 out] 64)).cell? ⟨w.heap.size, 1, none⟩ = some (.int .i64 d) := keepc HB3 (blk_cell (blk_new w _) 1)
    have p2 : (w3.alloc (.cells #[.int .i64 f, .int .i64 d, .slice A3 n3 c3, .int .i64 out] 64)).cell? ⟨w.heap.size, 2, none⟩ = some (.slice A n3 c) := keepc HB3 (blk_cell (blk_new w _) 2)
    have p3 : (w3.alloc (.cells #[.int .i64 f, .int .i64 d, .slice A3 n3 c3, .int .i64 out] 64)).cell? ⟨w.heap.size, 3, none⟩ = some (.int .i64 out) := keepc HB3 (blk_cell (blk_new w _) 3)
    go_wp2_with fail
    refine use_b (HC.out _ (HR.out.below (bl_tr (bl1 _) HB3.out))) ?_
    unfold CodErr
    intro w4 hb4
    have HB4 := Lib.hid (bl_tr HB3.out hb4.out)
    have HT4 : Hid (w4.heap[w3.heap.size]? = some (.cells #[.int .i64 f, .int .i64 d, .slice A3 n3 c3, .int .i64 out] 64)) := blk_below (blk_new w3 _) hb4.out
    have q0 : w4.cell? ⟨w3.heap.size, 0, none⟩ = some (.int .i64 f) := blk_cell HT4.out 0
    have q1 : w4.cell? ⟨w3.heap.size, 1, none⟩ = some (.int .i64 d) := blk_cell HT4.out 1
    have q2 : w4.cell? ⟨w3.heap.size, 2, none⟩ = some (.slice A3 n3 c3) := blk_cell HT4.out 2
    have q3 : w4.cell? ⟨w3.heap.size, 3, none⟩ = some (.int .i64 out) := blk_cell HT4.out 3
    have p0 := keepc hb4 p0
    have p1 := keepc hb4 p1
    have p2 := keepc hb4 p2
    have p3 := keepc hb4 p3
    go_wp2_with fail
    refine use_b (by have := csame_len f d A A3 c c3 n3 l l out _ (HR.out.below (bl_tr (bl1 _) HB4.out)) (HRD3.out.below (bl_tr (bl1 _) hb4.out)) HN.out HN.out; rw [codEq_yes ⟨rfl, rfl, rfl, rfl⟩] at this; exact this) ?_
    intro w5 hb5
    go_wp2
    go_ret
    exact ⟨by first | rfl | (simp; omega), bl_tr (bl1 _) (bl_tr HB4.out hb5.out)⟩
end Go.Proofs.Ytehcimecmbcdfaa
