/- The walk of the law PackBytes. -/
import Derived.Test.YtehcimecmbcdfaaXLaw19a
set_option linter.unusedSimpArgs false
set_option linter.unusedVariables false
namespace Go.Proofs.Ytehcimecmbcdfaa
open Go.RowKit

theorem use_roomyN {f d : Int} {A : Option Addr} {c N : Nat} {l : List Ins} {out : Int} {w : World} {R : Ending → World → Prop} (hr : RdNS w (.slice A N c) l) (hN : l.length = N) (hl : N * 48 ≤ 140737488351232)
    (k : ∀ g cap w1, Hid (Below w.heap.size w w1) → Hid (w.heap.size ≤ g) → Hid (RoomN w1 g cap l) → R (.returned (.agg #[.int .i64 f, .int .i64 d, .slice (some ⟨g, 0, none⟩) N cap, .int .i64 out])) w1) :
    Calls Try.prog 40 #[.agg #[.int .i64 f, .int .i64 d, .slice A N c, .int .i64 out]] w R :=
  (roomyN_any f d A c N l out w hr hN hl).mono fun e w1 ⟨g, cap, he, h1, h2, h3⟩ => by
    subst he
    exact k g cap w1 h3 h1 h2
set_option maxRecDepth 20000 in
set_option maxHeartbeats 1000000 in
theorem wPackBytes (f d : Int) (A : Option Addr) (c N : Nat) (l : List Ins) (out : Int) (w : World) (hr : RdNS w (.slice A N c) l) (hN : l.length = N) (hw : wfL l) (hl : N * 48 ≤ 140737488351232) :
    Calls Try.prog 11 #[.agg #[.int .i64 f, .int .i64 d, .slice A N c, .int .i64 out]] w fun e w' => e = .returned (.bool true) ∧ Below w.heap.size w w' := by
  have HR := Lib.hid hr
  have HN := Lib.hid hN
  have HW := Lib.hid hw
  have HRD : Hid (RdN w A l) := by
    obtain ⟨A', c', e, -, -, h⟩ := hr
    injection e with e1
    subst e1
    exact h
  obtain ⟨bs, hbs⟩ : ∃ bs, encB f d l out = bs := ⟨_, rfl⟩
  obtain ⟨er, her⟩ : ∃ er, CodErr (mayC f d l out) = er := ⟨_, rfl⟩
  have he : ∀ (A : Option Addr) (c : Nat) (W : World), RdN W A l → Hid (Calls Try.prog 41 #[.agg #[.int .i64 f, .int .i64 d, .slice A N c, .int .i64 out]] W (OwnPost2 W 5 .u8 bs er)) := fun A c W h => by
    have := enc_any f d A c N l out W h hN hw; rw [hbs, her] at this; exact this
  have hre : ∀ (A : Option Addr) (c : Nat) (W : World), RdN W A l → Hid (Calls Try.prog 42 #[.agg #[.int .i64 f, .int .i64 d, .slice A N c, .int .i64 out]] W (OwnPost2 W 5 .u8 bs er)) := fun A c W h => by
    have := rEnc_any f d A c N l out W h hN hw; rw [hbs, her] at this; exact this
  have HE := Lib.hid he
  have HRE := Lib.hid hre
  have hbl := Lib.hid (show bs.length ≤ 140737488354304 by rw [← hbs]; have := encB_len (f := f) (d := d) (out := out) hw; omega)
  clear he hre hr hN hw hbs her
  go_enter Try.func11, Try.ntmps11
  go_wp2_with fail
  refine use_roomyN (HR.out.below (bl1 _)) HN.out hl ?_
  intro g cap w1 hb1 hg1 rm1
  have HB1 : Hid (Below (w.alloc (.cells #[.int .i64 f, .int .i64 d, .slice A N c, .int .i64 out] 64)).heap.size (w.alloc (.cells #[.int .i64 f, .int .i64 d, .slice A N c, .int .i64 out] 64)) w1) := hb1
  go_wp2_with fail
  refine use_own2 (HE.out _ _ _ (rm1.out.below (bl1 _)).rd).out ?_
  intro v2 w2 hb2 ho2
  have HB2 : Hid (Below (w1.alloc (.cells #[.int .i64 f, .int .i64 d, .slice (some ⟨g, 0, none⟩) N cap, .int .i64 out] 64)).heap.size (w1.alloc (.cells #[.int .i64 f, .int .i64 d, .slice (some ⟨g, 0, none⟩) N cap, .int .i64 out] 64)) w2) := hb2
  have HB12 := Lib.hid (bl_tr HB1.out (bl_tr (bl1 (.cells #[.int .i64 f, .int .i64 d, .slice (some ⟨g, 0, none⟩) N cap, .int .i64 out] 64)) HB2.out))
  have p0 : w2.cell? ⟨w.heap.size, 0, none⟩ = some (.int .i64 f) := keepc HB12 (blk_cell (blk_new w _) 0)
  have p1 : w2.cell? ⟨w.heap.size, 1, none⟩ = some (.int .i64 d) := keepc HB12 (blk_cell (blk_new w _) 1)
  have p2 : w2.cell? ⟨w.heap.size, 2, none⟩ = some (.slice A N c) := keepc HB12 (blk_cell (blk_new w _) 2)
  have p3 : w2.cell? ⟨w.heap.size, 3, none⟩ = some (.int .i64 out) := keepc HB12 (blk_cell (blk_new w _) 3)
  go_wp2_with fail
  refine use_own2 (HRE.out _ _ _ (HRD.out.below (bl_tr (bl1 _) HB12.out))).out ?_
  intro v3 w3 hb3 ho3
  have HB3 := Lib.hid (bl_tr HB2.out hb3.out)
  clear p0 p1 p2 p3
  have q0 : w3.cell? ⟨w1.heap.size, 0, none⟩ = some (.int .i64 f) := keepc HB3 (blk_cell (blk_new w1 _) 0)
  have q1 : w3.cell? ⟨w1.heap.size, 1, none⟩ = some (.int .i64 d) := keepc HB3 (blk_cell (blk_new w1 _) 1)
  have q2 : w3.cell? ⟨w1.heap.size, 2, none⟩ = some (.slice (some ⟨g, 0, none⟩) N cap) := keepc HB3 (blk_cell (blk_new w1 _) 2)
  have q3 : w3.cell? ⟨w1.heap.size, 3, none⟩ = some (.int .i64 out) := keepc HB3 (blk_cell (blk_new w1 _) 3)
  go_wp2_with fail
  refine use_own2 (HE.out _ _ _ (rm1.out.below (bl_tr (bl1 _) HB3.out)).rd).out ?_
  intro v4 w4 hb4 ho4
  have HB4 := Lib.hid (bl_tr HB3.out hb4.out)
  clear q0 q1 q2 q3
  go_wp2_with fail
  refine use_b (awake19 _) ?_
  intro w5 hb5
  have e1 : (er == er) = true := by simp
  go_wp2_with fail
  refine use_b (same_any _ _ bs bs _ ((ho2.out.below (bl_tr hb3.out (bl_tr hb4.out hb5.out)))).rd (ho3.out.below (bl_tr hb4.out hb5.out)).rd) ?_
  rw [decide_eq_true rfl]
  intro w6 hb6
  go_wp2_with fail
  refine use_b (same_any _ _ bs bs _ (ho4.out.below (bl_tr hb5.out hb6.out)).rd (ho3.out.below (bl_tr hb4.out (bl_tr hb5.out hb6.out))).rd) ?_
  rw [decide_eq_true rfl]
  intro w7 hb7
  have HB47 := Lib.hid (bl_tr hb5.out (bl_tr hb6.out hb7.out))
  have HB7 := Lib.hid (bl_tr HB4.out HB47.out)
  have HB17 := Lib.hid (bl_tr HB1.out (bl_tr (bl1 (.cells #[.int .i64 f, .int .i64 d, .slice (some ⟨g, 0, none⟩) N cap, .int .i64 out] 64)) HB7.out))
  have p0 : w7.cell? ⟨w.heap.size, 0, none⟩ = some (.int .i64 f) := keepc HB17 (blk_cell (blk_new w _) 0)
  have p1 : w7.cell? ⟨w.heap.size, 1, none⟩ = some (.int .i64 d) := keepc HB17 (blk_cell (blk_new w _) 1)
  have p2 : w7.cell? ⟨w.heap.size, 2, none⟩ = some (.slice A N c) := keepc HB17 (blk_cell (blk_new w _) 2)
  have p3 : w7.cell? ⟨w.heap.size, 3, none⟩ = some (.int .i64 out) := keepc HB17 (blk_cell (blk_new w _) 3)
  have q0 : w7.cell? ⟨w1.heap.size, 0, none⟩ = some (.int .i64 f) := keepc HB7 (blk_cell (blk_new w1 _) 0)
  have q1 : w7.cell? ⟨w1.heap.size, 1, none⟩ = some (.int .i64 d) := keepc HB7 (blk_cell (blk_new w1 _) 1)
  have q2 : w7.cell? ⟨w1.heap.size, 2, none⟩ = some (.slice (some ⟨g, 0, none⟩) N cap) := keepc HB7 (blk_cell (blk_new w1 _) 2)
  have q3 : w7.cell? ⟨w1.heap.size, 3, none⟩ = some (.int .i64 out) := keepc HB7 (blk_cell (blk_new w1 _) 3)
  go_wp2_with fail
  refine use_b (heldN_any f d g cap A c N l out _ (rm1.out.below (bl_tr (bl1 _) HB7.out)) (HRD.out.below (bl_tr (bl1 _) HB17.out)) HN.out) ?_
  intro w8 hb8
  have HB48 := Lib.hid (bl_tr HB47.out hb8.out)
  have HB18 := Lib.hid (bl_tr HB17.out hb8.out)
  clear p0 p1 p2 p3
  clear q0 q1 q2 q3
  obtain ⟨A2, n2, c2, rfl⟩ : ∃ A n c, v2 = .slice A n c := by obtain ⟨A, c, h⟩ := ho2.out.form; exact ⟨A, _, c, h⟩
  obtain ⟨A4, n4, c4, rfl⟩ : ∃ A n c, v4 = .slice A n c := by obtain ⟨A, c, h⟩ := ho4.out.form; exact ⟨A, _, c, h⟩
  have hap := Lib.hid (apart_two (W := w4) (X := w8.alloc (.cells #[.slice A2 n2 c2, .slice A4 n4 c4] 36)) (p := w8.heap.size) ((ho2.out.below (bl_tr hb3.out hb4.out)).lower (Nat.zero_le _)) (ho4.out.lower (Nat.zero_le _)) hbl.out hbl.out (fun g h1 h2 => by
    have := (ho2.out.blockGe g h1).2
    have := (ho4.out.blockGe g h2).1
    have := hb3.out.size
    omega) (bl_alloc HB48.out _) HB48.out.size (blk_new _ _))
  go_wp2_with fail
  refine use_kp hap.out ?_
  intro w9 hb9
  go_wp2
  go_ret
  refine ⟨by first | rfl | (simp; done), Kp.below (bl_alloc (bl_tr (bl1 _) HB18.out) _) hb9.out (bl_alloc (bl_tr (bl1 _) HB18.out) _).size (fun k hk => ?_)⟩
  have h0 := (bl_tr (bl1 (.cells #[.int .i64 f, .int .i64 d, .slice A N c, .int .i64 out] 64)) (bl_tr HB1.out (bl1 (.cells #[.int .i64 f, .int .i64 d, .slice (some ⟨g, 0, none⟩) N cap, .int .i64 out] 64)))).size
  rcases hk with hk | hk
  · exact Nat.le_trans h0 (ho2.out.blockGe k hk).1
  · exact Nat.le_trans h0 (Nat.le_trans HB3.out.size (ho4.out.blockGe k hk).1)
end Go.Proofs.Ytehcimecmbcdfaa
