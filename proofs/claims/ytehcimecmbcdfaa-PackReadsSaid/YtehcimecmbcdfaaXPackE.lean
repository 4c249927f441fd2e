/- Contract: the bytes of a code (pack.Encode). -/
import Derived.Test.YtehcimecmbcdfaaXPackI
import Derived.Test.YtehcimecmbcdfaaXJoin
set_option linter.unusedSimpArgs false
set_option linter.unusedVariables false
namespace Go.Proofs.Ytehcimecmbcdfaa
open Go.RowKit

theorem mayC_parts {f d : Int} {l : List Ins} {out : Int} (h : mayC f d l out = true) : KOk f d ∧ 1 ≤ l.length ∧ l.length ≤ 200 ∧ 0 ≤ out ∧ out < (l.length : Int) ∧ allMay l = true := by
  unfold mayC at h
  simp only [Bool.and_eq_true, decide_eq_true_eq] at h
  obtain ⟨⟨h1, h2⟩, h3⟩ := h
  exact ⟨(KOkB_iff f d).1 h1, h2.1, h2.2.1, h2.2.2.1, h2.2.2.2, h3⟩
set_option maxHeartbeats 400000 in
theorem enc_no (f d : Int) (A : Option Addr) (c N : Nat) (l : List Ins) (out : Int) (w : World) (hr : RdN w A l) (hN : l.length = N) (hw : wfL l) (hm : mayC f d l out = false) :
    Calls Try.prog 41 #[.agg #[.int .i64 f, .int .i64 d, .slice A N c, .int .i64 out]] w (OwnPost2 w 5 .u8 [] 15) := by
  have hc := fun W h => Lib.hid (check_any f d A c N l out W h hN hw)
  rw [hm] at hc
  have HR := Lib.hid hr
  clear hm hN hw hr
  go_enter Try.func41, Try.ntmps41
  go_wp2_with (go_at_call 49; refine use_b (hc _ (HR.out.below (bl1 _))).out ?_; intro w1 hb1; unfold CodErr)
  go_ret2
  exact ⟨_, rfl, OwI.nil _ _ _ _, by repeat (first | exact Below.refl _ _ | apply bl_alloc | apply bl_drew | apply bl_drewN | (refine bl_tr' (by assumption) ?_))⟩
def EncRel (w0 w : World) (N : Nat) (l : List Ins) (pre : List Int) (v5 i : Value) (wr : World) : Prop :=
  ∃ k : Nat, k ≤ N ∧ i = .int .i64 k ∧ OwI wr w0.heap.size 5 .u8 v5 (pre ++ encL l k) ∧ Below w0.heap.size w0 wr
set_option maxRecDepth 20000 in
set_option maxHeartbeats 1000000 in
theorem enc_yes (f d : Int) (A : Option Addr) (c N : Nat) (l : List Ins) (out : Int) (w : World) (hr : RdN w A l) (hN : l.length = N) (hw : wfL l) (hm : mayC f d l out = true) :
    Calls Try.prog 41 #[.agg #[.int .i64 f, .int .i64 d, .slice A N c, .int .i64 out]] w (OwnPost2 w 5 .u8 (encC f d l out) 0) := by
  obtain ⟨⟨hf, hd1, hd2⟩, h1, h2, h3, h4, hall⟩ := mayC_parts hm
  have hc := fun W h => Lib.hid (check_any f d A c N l out W h hN hw)
  rw [hm] at hc
  rw [hN] at h1 h2 h4
  have HN := Lib.hid hN
  have HW := Lib.hid hw
  have HR := Lib.hid hr
  have HALL := Lib.hid (fun i hi => allMay_at hall i hi)
  have hE := Lib.hid (show encC f d l out = ([1, f, d] ++ natL (N : Int)) ++ encL l N ++ natL ((N : Int) - 1 - out) by unfold encC; rw [hN])
  have hf0 : 0 ≤ f := by omega
  have hf1 : f ≤ 1 := by omega
  have HLL := Lib.hid (encL_len (l := l) (N := N) (fun i hi => ⟨allMay_at hall i (by omega), (hw.at_ i (by omega)).k⟩) h2)
  have hwf := Lib.hid (show IntKind.u8.wrap f = f by simp [IntKind.wrap, IntKind.bits, IntKind.signed]; omega)
  have hwd := Lib.hid (show IntKind.u8.wrap d = d by simp [IntKind.wrap, IntKind.bits, IntKind.signed]; omega)
  clear hm hN hw hr hall hf
  have hl10 := Lib.hid (natL_len (n := (N : Int)) (by omega))
  have hi64 := Lib.hid (show I64 (N : Int) by unfold I64; omega)
  have h3l := Lib.hid (show ([1, IntKind.u8.wrap f, IntKind.u8.wrap d] : List Int).length ≤ 9223372036854775807 by simp)
  go_enter Try.func41, Try.ntmps41
  go_wp2_with (go_at_call 49; refine use_b (hc _ (HR.out.below (bl1 _))).out ?_; intro w1 hb1; unfold CodErr)
  have c0 : w1.cell? ⟨w.heap.size, 0, none⟩ = some (.int .i64 f) := keepc hb1 (blk_cell (blk_new w _) 0)
  have c1 : w1.cell? ⟨w.heap.size, 1, none⟩ = some (.int .i64 d) := keepc hb1 (blk_cell (blk_new w _) 1)
  have c2 : w1.cell? ⟨w.heap.size, 2, none⟩ = some (.slice A N c) := keepc hb1 (blk_cell (blk_new w _) 2)
  have B1 := Lib.hid (bl_tr (bl1 _) hb1.out)
  have hs1 : w.heap.size + 1 ≤ w1.heap.size := by have := hb1.out.size; simpa using this
  go_region_held3 (fun w' => w'.cell? ⟨w.heap.size, 0, none⟩ = some (.int .i64 f) ∧ w'.cell? ⟨w.heap.size, 1, none⟩ = some (.int .i64 d) ∧ w'.cell? ⟨w.heap.size, 2, none⟩ = some (.slice A N c)) (first | go_keep | (go_split_ands; exact ⟨keepc hb2 (by assumption), keepc hb2 (by assumption), keepc hb2 (by assumption)⟩) | (go_split_ands; exact ⟨keepc hb3 (by assumption), keepc hb3 (by assumption), keepc hb3 (by assumption)⟩)) (first | (go_at_call 64; refine use_own (natural_any _ _ hi64.out) ?_; intro v2 w2 hb2 hv2; obtain ⟨A2, c2z, rfl⟩ := hv2.out.form) | (go_at_call 29; refine use_own (octJoin _ [[1, IntKind.u8.wrap f, IntKind.u8.wrap d], natL (N : Int)] _ ?_ ?_) ?_; (first | (have hx := (RdSS.two (W := w2) ((lit_rd (W := w1) (E := 5) [1, IntKind.u8.wrap f, IntKind.u8.wrap d] h3l.out).below (by repeat (first | exact Below.refl _ _ | apply bl_alloc | apply bl_drew | apply bl_drewN | (refine bl_tr' (by assumption) ?_)))) hv2.out.rd); exact hx.below (by repeat (first | exact Below.refl _ _ | apply bl_alloc | apply bl_drew | apply bl_drewN | (refine bl_tr' (by assumption) ?_)))) | (have hx := (RdSS.two (W := w2.alloc (.cells ([1, IntKind.u8.wrap f, IntKind.u8.wrap d].map (Value.int .u8)).toArray 5)) (lit_rd (W := w2) (E := 5) [1, IntKind.u8.wrap f, IntKind.u8.wrap d] h3l.out) (hv2.out.rd.below (by repeat (first | exact Below.refl _ _ | apply bl_alloc | apply bl_drew | apply bl_drewN | (refine bl_tr' (by assumption) ?_))))); simp only [World.size_alloc] at hx; exact hx.below (by repeat (first | exact Below.refl _ _ | apply bl_alloc | apply bl_drew | apply bl_drewN | (refine bl_tr' (by assumption) ?_)))) | fail); (have := hl10.out; simp; omega); intro v3 w3 hb3 hv3) | fail)
  all_goals
    have HB1 : Hid (Below (w.alloc (.cells #[.int .i64 f, .int .i64 d, .slice A N c, .int .i64 out] 64)).heap.size (w.alloc (.cells #[.int .i64 f, .int .i64 d, .slice A N c, .int .i64 out] 64)) w1) := hb1
    have HB3 : Hid (Below (w.alloc (.cells #[.int .i64 f, .int .i64 d, .slice A N c, .int .i64 out] 64)).heap.size (w.alloc (.cells #[.int .i64 f, .int .i64 d, .slice A N c, .int .i64 out] 64)) w3) := by repeat (first | exact Below.refl _ _ | apply bl_alloc | apply bl_drew | apply bl_drewN | (refine bl_tr' (by assumption) ?_))
    have HO3 : Hid (OwI w3 (w.alloc (.cells #[.int .i64 f, .int .i64 d, .slice A N c, .int .i64 out] 64)).heap.size 5 .u8 v3 ([1, f, d] ++ natL (N : Int))) := by
      have h := hv3.out.lower (base' := (w.alloc (.cells #[.int .i64 f, .int .i64 d, .slice A N c, .int .i64 out] 64)).heap.size) (Below.size (B := (w.alloc (.cells #[.int .i64 f, .int .i64 d, .slice A N c, .int .i64 out] 64)).heap.size) (w := w.alloc (.cells #[.int .i64 f, .int .i64 d, .slice A N c, .int .i64 out] 64)) (by repeat (first | exact Below.refl _ _ | apply bl_alloc | apply bl_drew | apply bl_drewN | (refine bl_tr' (by assumption) ?_))))
      rw [hwf.out, hwd.out] at h
      exact Lib.hid (by simpa using h)
    have HR3 := Lib.hid ((HR.out.below (bl1 _)).below HB3.out)
    have d2 : w3.cell? ⟨w.heap.size, 2, none⟩ = some (.slice A N c) := keepc HB3 (blk_cell (blk_new w _) 2)
    obtain ⟨A3, n3, c3, rfl⟩ : ∃ A n c, v3 = .slice A n c := by obtain ⟨A, c, h⟩ := hv3.out.form; exact ⟨A, _, c, h⟩
    rw [hwf.out, hwd.out]
    clear c0 c1 c2 B1 hb1 hb2 hb3 hv2 hv3 hs1 hc
    go_wp2_with fail
    go_loopw [5, 6, 7, 31] (fun v5 _ _ i wr => EncRel (w.alloc (.cells #[.int .i64 f, .int .i64 d, .slice A N c, .int .i64 out] 64)) w N l ([1, f, d] ++ natL (N : Int)) v5 i wr) (fun _ _ _ i _ => N - (intOf i).toNat)
    case atStart => exact ⟨0, Nat.zero_le _, rfl, by have := HO3.out; simpa [encL] using this, HB3.out⟩
    case round =>
      obtain ⟨k, hk, rfl, ho, hb⟩ := hrel
      have HOk := Lib.hid ho
      have HBk := Lib.hid hb
      clear ho hb HO3 hl10
      by_cases hlt : k < N
      · have RR := Lib.hid (HR3.out.1)
        have RK := Lib.hid ((HR.out.below (bl1 _)).below HBk.out)
        obtain ⟨ad, rfl, q0, q1, q2, q3, q4, q5⟩ := RK.out.at_ k (by rw [HN.out]; exact hlt)
        have hwf := Lib.hid (HW.out.at_ k (by rw [HN.out]; exact hlt))
        have hmk := Lib.hid (HALL.out k (by rw [HN.out]; exact hlt))
        have hsu := Lib.hid (encL_succ l k)
        have hle := HLL.out k hk
        obtain ⟨n, hn⟩ : ∃ n, l.getD k zIns = n := ⟨_, rfl⟩
        rw [hn] at q0 q1 q2 q3 q4 q5 hwf hmk hsu
        have hlI := Lib.hid (encI_len hmk.out (by omega) hwf.out.k)
        obtain ⟨op, a, b, c', kk, s⟩ := n
        clear hn
        simp only at q0 q1 q2 q3 q4 q5
        have HLE := Lib.hid hle
        clear hle
        go_wp2_with fail
        refine use_own (inst_any k ⟨op, a, b, c', kk, s⟩ _ hmk.out (by omega) hwf.out) ?_
        intro v4 w4 hb4 hv4
        have HB4 := Lib.hid (bl_tr (bl_alloc HBk.out (.cells (Ins.cells ⟨op, a, b, c', kk, s⟩) 92)) hb4.out)
        have HO4 := Lib.hid ((HOk.out.below (bl1 (.cells (Ins.cells ⟨op, a, b, c', kk, s⟩) 92))).below hb4.out)
        have hs4 := HB4.out.size
        have hl10 := Lib.hid (natL_len (n := (N : Int)) (by omega))
        have hs40 : w.heap.size + 1 ≤ w4.heap.size := by simpa using hs4
        go_wp2_with (at_builtin; refine ap_row (w.heap.size + 1) rfl (.tmp 36) (.tmp 39) 36 5 .u8 1 rfl Try.underlying36 info_u8 (by decide) u5 (([1, f, d] ++ natL (N : Int)) ++ encL l k) v4 (encI k ⟨op, a, b, c', kk, s⟩) rfl rfl (by have := HO4.out; simpa using this) hv4.out.rd hs40 (by have := HLE.out; have := hlI.out; have := hl10.out; rw [List.length_append, List.length_append]; simp only [List.length_cons, List.length_nil]; omega) _ rfl ?_; intro A5 c5 w5 hO5 hg5 hat5)
        go_roundw
        case measure => simp [intOf]; omega
        case rel =>
          refine ⟨k + 1, by omega, by go_num, ?_, bl_grown HB4.out HO4.out hs4 hg5.out⟩
          rw [hsu.out, ← List.append_assoc]
          simpa using hO5.out
      · obtain rfl : k = N := by omega
        have d2 := keepc HBk (blk_cell (blk_new w (.cells #[.int .i64 f, .int .i64 d, .slice A k c, .int .i64 out] 64)) 2)
        have d3 := keepc HBk (blk_cell (blk_new w (.cells #[.int .i64 f, .int .i64 d, .slice A k c, .int .i64 out] 64)) 3)
        have hi := Lib.hid (show I64 ((k : Int) - 1 - out) by unfold I64; omega)
        have hl := Lib.hid (natL_len (n := (k : Int) - 1 - out) (by omega))
        have hl10 := Lib.hid (natL_len (n := (k : Int)) (by omega))
        have hle := HLL.out k (Nat.le_refl _)
        have HLE := Lib.hid hle
        clear hle
        go_wp2_with fail
        refine use_own (natural_any _ _ hi.out) ?_
        intro v4 w4 hb4 hv4
        have HB4 := Lib.hid (bl_tr HBk.out hb4.out)
        have HO4 := Lib.hid (HOk.out.below hb4.out)
        have hs4 := HB4.out.size
        have hs40 : w.heap.size + 1 ≤ w4.heap.size := by simpa using hs4
        go_wp2_with (at_builtin; refine ap_row (w.heap.size + 1) rfl (.tmp 42) (.tmp 50) 36 5 .u8 1 rfl Try.underlying36 info_u8 (by decide) u5 (([1, f, d] ++ natL (k : Int)) ++ encL l k) v4 (natL ((k : Int) - 1 - out)) rfl rfl (by have := HO4.out; simpa using this) hv4.out.rd hs40 (by have := HLE.out; have := hl.out; have := hl10.out; rw [List.length_append, List.length_append]; simp only [List.length_cons, List.length_nil]; omega) _ rfl ?_; intro A5 c5 w5 hO5 hg5 hat5)
        go_ret2
        refine ⟨_, rfl, ?_, bl_tr (bl1 _) (bl_grown HB4.out HO4.out hs4 hg5.out)⟩
        rw [hE.out]
        have := hO5.out.lower (Nat.le_succ _)
        simpa using this
end Go.Proofs.Ytehcimecmbcdfaa
