/- Contract: damasklaw01.reads. -/
import Derived.Test.YtehcimecmbcdfaaXRoomy
set_option linter.unusedSimpArgs false
set_option linter.unusedVariables false
namespace Go.Proofs.Ytehcimecmbcdfaa
open Go.RowKit

theorem Rdr.le {w : World} {b : Nat} {l : List Int} {pos : Nat} (h : Rdr w b l pos) : pos ≤ l.length := by
  obtain ⟨_, _, _, _, h, _⟩ := h
  exact h
/-- 's[lo:]' -/
theorem cut_l {P : Program} (t e : TypeId) {i : TypeInfo} (ht : P.underlying t = some (.slice e)) (hi : P.info? e = some i) (hsz : i.size = 1) (A : Option Addr) (c : Nat) (l : List Int) (lo : Nat) (h2 : lo ≤ l.length) (hc : l.length ≤ c) (hA : A = none → c = 0) :
    ∃ A' c', (∀ W : World, (Instr.slice t (.slice A l.length c) (some (.int .i64 (lo : Int))) none none).run P W = .ok (.slice A' (l.length - lo) c') W) ∧
      (∀ (w : World) (k : IntKind), RdI w k A l → RdS w k (.slice A' (l.length - lo) c') (l.drop lo)) := by
  refine ⟨if c = lo then A else A.map (·.add lo), c - lo, fun W => ?_, fun w k h => ?_⟩
  · have hel : P.elem t = e := by simp [Program.elem, ht]
    have hu : P.underlying t = some (.slice (P.elem t)) := by rw [hel]; exact ht
    rw [run_slice_l W t A l.length c hu .i64 (lo : Int) (Int.natCast_nonneg _) (by omega), hel]
    simp [sizeOf, typeInfo, hi, hsz, sliced, Result.andThen]
  · have h3 := h.cut lo l.length c h2 (Nat.le_refl _) hc
    rw [List.take_length] at h3
    refine ⟨_, _, by rw [List.length_drop], by rw [List.length_drop]; omega, fun hn => ?_, h3⟩
    by_cases hcl : c = lo
    · omega
    · rw [if_neg hcl] at hn
      cases A with
      | none => have := hA rfl; omega
      | some a => cases hn
theorem use_ref {P : Program} {f : FuncId} {args : Array Value} {w : World} {r : Int × Nat × Int} {R : Ending → World → Prop} (h : Calls P f args w (RefPost w r))
    (k : ∀ w1, Hid (Below w.heap.size w w1) → R (.returned (.tuple #[.int .i64 r.1, .int .i64 (r.2.1 : Int), .int .i64 r.2.2])) w1) : Calls P f args w R :=
  h.mono fun e w1 ⟨he, hb⟩ => by
    subst he
    exact k w1 hb
/-- what reads answers: the bytes that are left -/
def ReadsPost (w0 w : World) (b : Nat) (l : List Int) (e : Ending) (w' : World) : Prop :=
  ∃ pos v, e = .returned (.tuple #[v, .bool true]) ∧ RdS w0 .u8 v (l.drop pos) ∧ Rdr w' b l pos ∧ Kp (· = b) w w'
set_option maxRecDepth 20000 in
set_option maxHeartbeats 4000000 in
theorem reads_num (b : Nat) (l : List Int) (pos : Nat) (v : Value) (K M : Int) (w0 w : World) (h : Rdr w b l pos) (hby : Byt l) (hv : RdS w0 .u8 v (l.drop pos)) (HBL : Below w0.heap.size w0 w) (hb0 : w0.heap.size ≤ b) (hK : K = 1 ∨ K = 2) :
    Calls Try.prog 37 #[.pointer (some ⟨b, 0, none⟩), v, .agg #[.int .i64 K, .int .i64 M]] w (ReadsPost w0 w b l) := by
  have HR := Lib.hid hv
  have H := Lib.hid h
  have HB := Lib.hid hby
  have HL := Lib.hid HBL
  have hlen : (l.drop pos).length ≤ 140737488355328 := by obtain ⟨_, _, _, _, _, h⟩ := h; rw [List.length_drop]; omega
  obtain ⟨i0, hi, hz0, hz1, hz2⟩ := info_parts info_u8
  obtain ⟨D, hD⟩ : ∃ D, l.drop pos = D := ⟨_, rfl⟩
  rw [hD] at hv HR hlen
  obtain ⟨A, c, rfl, hc, hA0, hA⟩ := hv
  rcases hK with rfl | rfl
  · obtain ⟨X, N, E, hu, hX, hU⟩ := uint_facts (hby.drop pos)
    have hN : N ≤ D.length := by rw [hD] at hU; rcases hU with h | h <;> omega
    obtain ⟨A', c', hcut, hr'⟩ := cut_l 36 5 Try.underlying36 hi hz1 A c D N hN hc hA0
    have HU := Lib.hid hu
    have HUD : Hid (uintOf D = ((X : Int), N, E)) := hD ▸ hu
    have HR' := Lib.hid (hr' w0 .u8 hA)
    have HD := Lib.hid hD
    clear hU hu hr' hA hi hz0 hz1 hz2 hby h HBL hX hD hA0
    go_enter Try.func37, Try.ntmps37
    go_wp2_with fail
    refine use_rd (octRUint b l pos _ (H.out.below (bl1 _)) HB.out) ?_
    rw [HU.out]
    intro w1 hk1 r1
    have hk1' := Lib.hid (Kp.trans (Kp.of_below (bl1 _)) hk1.out)
    have hb1 := Lib.hid (bl_kp HL.out hk1'.out (fun k hk => hk ▸ hb0))
    have hv1 := Lib.hid (HR.out.below hb1.out)
    clear hk1
    go_wp2_with fail
    refine use_ref (refReadUint _ D _ hv1.out (HD.out ▸ HB.out.drop pos) (by omega)) ?_
    rw [HUD.out]
    intro w2 hb2
    go_wp2
    go_ret2
    refine ⟨pos + N, .slice A' (D.length - N) c', by first | rfl | (simp; done), ?_, ?_, ?_⟩
    · rw [← List.drop_drop, HD.out]; exact HR'.out
    · exact r1.out.below hb2.out
    · exact hk1'.out.trans (Kp.of_below hb2.out)
  · obtain ⟨X, N, E, hu, hX, hU⟩ := sint_facts (hby.drop pos)
    have hN : N ≤ D.length := by rw [hD] at hU; rcases hU with h | h <;> omega
    obtain ⟨A', c', hcut, hr'⟩ := cut_l 36 5 Try.underlying36 hi hz1 A c D N hN hc hA0
    have HU := Lib.hid hu
    have HUD : Hid (sintOf D = (X, N, E)) := hD ▸ hu
    have HR' := Lib.hid (hr' w0 .u8 hA)
    have HD := Lib.hid hD
    clear hU hu hr' hA hi hz0 hz1 hz2 hby h HBL hX hD hA0
    go_enter Try.func37, Try.ntmps37
    go_wp2_with fail
    refine use_rd (octRInt b l pos _ (H.out.below (bl1 _)) HB.out) ?_
    rw [HU.out]
    intro w1 hk1 r1
    have hk1' := Lib.hid (Kp.trans (Kp.of_below (bl1 _)) hk1.out)
    have hb1 := Lib.hid (bl_kp HL.out hk1'.out (fun k hk => hk ▸ hb0))
    have hv1 := Lib.hid (HR.out.below hb1.out)
    clear hk1
    go_wp2_with fail
    refine use_ref (refReadInt _ D _ hv1.out (HD.out ▸ HB.out.drop pos) (by omega)) ?_
    rw [HUD.out]
    intro w2 hb2
    go_wp2
    go_ret2
    refine ⟨pos + N, .slice A' (D.length - N) c', by first | rfl | (simp; done), ?_, ?_, ?_⟩
    · rw [← List.drop_drop, HD.out]; exact HR'.out
    · exact r1.out.below hb2.out
    · exact hk1'.out.trans (Kp.of_below hb2.out)
set_option maxRecDepth 20000 in
set_option maxHeartbeats 4000000 in
theorem reads_byte (b : Nat) (l : List Int) (pos : Nat) (v : Value) (K M : Int) (w0 w : World) (h : Rdr w b l pos) (hby : Byt l) (hv : RdS w0 .u8 v (l.drop pos)) (HBL : Below w0.heap.size w0 w) (hb0 : w0.heap.size ≤ b) (hK : K = 3) :
    Calls Try.prog 37 #[.pointer (some ⟨b, 0, none⟩), v, .agg #[.int .i64 K, .int .i64 M]] w (ReadsPost w0 w b l) := by
  have HR := Lib.hid hv
  have H := Lib.hid h
  have HB := Lib.hid hby
  have HL := Lib.hid HBL
  have hlen : (l.drop pos).length ≤ 140737488355328 := by obtain ⟨_, _, _, _, _, h⟩ := h; rw [List.length_drop]; omega
  have hle := h.le
  have hdl : (l.drop pos).length = l.length - pos := List.length_drop
  obtain ⟨i0, hi, hz0, hz1, hz2⟩ := info_parts info_u8
  obtain ⟨D, hD⟩ : ∃ D, l.drop pos = D := ⟨_, rfl⟩
  rw [hD] at hv HR hlen hdl
  obtain ⟨A, c, rfl, hc, hA0, hA⟩ := hv
  subst hK
  have HD := Lib.hid hD
  by_cases h0 : pos < l.length
  · obtain ⟨A', c', hcut, hr'⟩ := cut_l 36 5 Try.underlying36 hi hz1 A c D 1 (by omega) hc hA0
    have hcut : ∀ W : World, (Instr.slice 36 (.slice A D.length c) (some (.int .i64 1)) none none).run Try.prog W = .ok (.slice A' (D.length - 1) c') W := hcut
    have HR' := Lib.hid (hr' w0 .u8 hA)
    obtain ⟨x, hx⟩ : ∃ x, l.getD pos 0 = x := ⟨_, rfl⟩
    have hxb := hby.getD pos h0
    rw [hx] at hxb
    obtain ⟨hx0, hx1⟩ := hxb
    obtain ⟨ad, rfl, hcell⟩ := hA.at_ 0 (by omega)
    have hcell' : w0.cell? ad = some (.int .u8 x) := by
      rw [← hx]
      rw [← hD] at hcell
      rw [show ad = ad.add 0 by unfold Addr.add; simp, hcell]
      simp [List.getD_eq_getElem?_getD]
    have HX := Lib.hid hx
    clear hr' hA hi hz0 hz1 hz2 hby h HBL hD hA0 hx hcell
    go_enter Try.func37, Try.ntmps37
    go_wp2_with fail
    refine use_rd (octByte_yes b l pos _ (H.out.below (bl1 _)) h0 HB.out) ?_
    rw [HX.out]
    intro w1 hk1 r1
    have hk1' := Lib.hid (Kp.trans (Kp.of_below (bl1 _)) hk1.out)
    have hb1 := Lib.hid (bl_kp HL.out hk1'.out (fun k hk => hk ▸ hb0))
    have hc1 := keepc hb1 hcell'
    clear hk1 hcell'
    have e1 : ((D.length : Int) == 0) = false := by rw [beq_eq_false_iff_ne]; omega
    have e2 : (0 : Int) < (D.length : Int) := by omega
    have e3 : 0 < D.length := by omega
    clear hdl
    go_wp2
    go_quiet (fail)
    go_wp2
    go_ret2
    refine ⟨pos + 1, .slice A' (D.length - 1) c', by first | rfl | (simp; done), ?_, ?_, ?_⟩
    · rw [← List.drop_drop, HD.out]; exact HR'.out
    · exact r1.out
    · first | exact hk1'.out | exact hk1'.out.drewN _
  · have e1 : D.length = 0 := by omega
    clear hA hi hz0 hz1 hz2 hby h HBL hD hA0 hdl
    go_enter Try.func37, Try.ntmps37
    go_wp2_with fail
    refine use_b (octByte_short b l pos _ (H.out.below (bl1 _)) (by omega)) ?_
    intro w1 hb1
    have B1 := Lib.hid (bl_tr (bl1 _) hb1.out)
    clear hb1
    go_wp2
    go_ret2
    exact ⟨pos, .slice A D.length c, by first | rfl | (simp [*]; done), HD.out ▸ HR.out, H.out.below B1.out, Kp.of_below B1.out⟩
set_option maxRecDepth 20000 in
set_option maxHeartbeats 4000000 in
theorem reads_left (b : Nat) (l : List Int) (pos : Nat) (v : Value) (K M : Int) (w0 w : World) (h : Rdr w b l pos) (hby : Byt l) (hv : RdS w0 .u8 v (l.drop pos)) (HBL : Below w0.heap.size w0 w) (hb0 : w0.heap.size ≤ b) (hK : K = 5) :
    Calls Try.prog 37 #[.pointer (some ⟨b, 0, none⟩), v, .agg #[.int .i64 K, .int .i64 M]] w (ReadsPost w0 w b l) := by
  have HR := Lib.hid hv
  have H := Lib.hid h
  have HB := Lib.hid hby
  have HL := Lib.hid HBL
  have hlen : (l.drop pos).length ≤ 140737488355328 := by obtain ⟨_, _, _, _, _, h⟩ := h; rw [List.length_drop]; omega
  have hle := h.le
  have hdl : (l.drop pos).length = l.length - pos := List.length_drop
  obtain ⟨i0, hi, hz0, hz1, hz2⟩ := info_parts info_u8
  obtain ⟨D, hD⟩ : ∃ D, l.drop pos = D := ⟨_, rfl⟩
  rw [hD] at hv HR hlen hdl
  obtain ⟨A, c, rfl, hc, hA0, hA⟩ := hv
  subst hK
  have HD := Lib.hid hD
  have e1 : (l.length : Int) - (pos : Int) = (D.length : Int) := by omega
  clear hA hi hz0 hz1 hz2 hby h HBL hD hA0 hdl
  go_enter Try.func37, Try.ntmps37
  go_wp2_with fail
  refine use_b (octLeft b l pos _ (H.out.below (bl1 _))) ?_
  intro w1 hb1
  have B1 := Lib.hid (bl_tr (bl1 _) hb1.out)
  clear hb1
  go_wp2
  go_ret2
  exact ⟨pos, .slice A D.length c, by first | rfl | (simp [e1]; done), HD.out ▸ HR.out, H.out.below B1.out, Kp.of_below B1.out⟩
set_option maxRecDepth 20000 in
set_option maxHeartbeats 4000000 in
theorem reads_done (b : Nat) (l : List Int) (pos : Nat) (v : Value) (K M : Int) (w0 w : World) (h : Rdr w b l pos) (hby : Byt l) (hv : RdS w0 .u8 v (l.drop pos)) (HBL : Below w0.heap.size w0 w) (hb0 : w0.heap.size ≤ b) (hK : K = 6) :
    Calls Try.prog 37 #[.pointer (some ⟨b, 0, none⟩), v, .agg #[.int .i64 K, .int .i64 M]] w (ReadsPost w0 w b l) := by
  have HR := Lib.hid hv
  have H := Lib.hid h
  have HB := Lib.hid hby
  have HL := Lib.hid HBL
  have hlen : (l.drop pos).length ≤ 140737488355328 := by obtain ⟨_, _, _, _, _, h⟩ := h; rw [List.length_drop]; omega
  have hle := h.le
  have hdl : (l.drop pos).length = l.length - pos := List.length_drop
  obtain ⟨i0, hi, hz0, hz1, hz2⟩ := info_parts info_u8
  obtain ⟨D, hD⟩ : ∃ D, l.drop pos = D := ⟨_, rfl⟩
  rw [hD] at hv HR hlen hdl
  obtain ⟨A, c, rfl, hc, hA0, hA⟩ := hv
  subst hK
  have HD := Lib.hid hD
  by_cases h0 : pos < l.length
  · have e1 : ((D.length : Int) == 0) = false := by rw [beq_eq_false_iff_ne]; omega
    have e2 : decide ((0 : Int) < (D.length : Int)) = true := decide_eq_true (by omega)
    have e3 : 0 < D.length := by omega
    clear hA hi hz0 hz1 hz2 hby h HBL hD hA0 hdl
    go_enter Try.func37, Try.ntmps37
    go_wp2_with fail
    refine use_b (octDone b l pos _ (H.out.below (bl1 _))) ?_
    rw [if_pos h0]
    intro w1 hb1
    have B1 := Lib.hid (bl_tr (bl1 _) hb1.out)
    clear hb1
    go_wp2
    go_ret2
    exact ⟨pos, .slice A D.length c, by first | rfl | (simp [*]; done) | (simp; omega), HD.out ▸ HR.out, H.out.below B1.out, Kp.of_below B1.out⟩
  · have e1 : ((D.length : Int) == 0) = true := by rw [beq_iff_eq]; omega
    clear hA hi hz0 hz1 hz2 hby h HBL hD hA0 hdl
    go_enter Try.func37, Try.ntmps37
    go_wp2_with fail
    refine use_b (octDone b l pos _ (H.out.below (bl1 _))) ?_
    rw [if_neg h0]
    intro w1 hb1
    have B1 := Lib.hid (bl_tr (bl1 _) hb1.out)
    clear hb1
    go_wp2
    go_ret2
    exact ⟨pos, .slice A D.length c, by first | rfl | (simp [*]; done), HD.out ▸ HR.out, H.out.below B1.out, Kp.of_below B1.out⟩
set_option maxRecDepth 20000 in
set_option maxHeartbeats 4000000 in
theorem reads_other (b : Nat) (l : List Int) (pos : Nat) (v : Value) (K M : Int) (w0 w : World) (h : Rdr w b l pos) (hby : Byt l) (hv : RdS w0 .u8 v (l.drop pos)) (HBL : Below w0.heap.size w0 w) (hb0 : w0.heap.size ≤ b) (hK : K ≠ 1 ∧ K ≠ 2 ∧ K ≠ 3 ∧ K ≠ 4 ∧ K ≠ 5 ∧ K ≠ 6) :
    Calls Try.prog 37 #[.pointer (some ⟨b, 0, none⟩), v, .agg #[.int .i64 K, .int .i64 M]] w (ReadsPost w0 w b l) := by
  have HR := Lib.hid hv
  have H := Lib.hid h
  have HB := Lib.hid hby
  have HL := Lib.hid HBL
  have hlen : (l.drop pos).length ≤ 140737488355328 := by obtain ⟨_, _, _, _, _, h⟩ := h; rw [List.length_drop]; omega
  have hle := h.le
  have hdl : (l.drop pos).length = l.length - pos := List.length_drop
  obtain ⟨i0, hi, hz0, hz1, hz2⟩ := info_parts info_u8
  obtain ⟨D, hD⟩ : ∃ D, l.drop pos = D := ⟨_, rfl⟩
  rw [hD] at hv HR hlen hdl
  obtain ⟨A, c, rfl, hc, hA0, hA⟩ := hv
  obtain ⟨k1, k2, k3, k4, k5, k6⟩ := hK
  have HD := Lib.hid hD
  have e1 : (K == 1) = false := by simp [k1]
  have e2 : (K == 2) = false := by simp [k2]
  have e3 : (K == 3) = false := by simp [k3]
  have e4 : (K == 4) = false := by simp [k4]
  have e5 : (K == 5) = false := by simp [k5]
  have e6 : (K == 6) = false := by simp [k6]
  clear hA hi hz0 hz1 hz2 hby h HBL hD hA0 hdl k1 k2 k3 k4 k5 k6
  go_enter Try.func37, Try.ntmps37
  go_wp2
  go_ret2
  exact ⟨pos, .slice A D.length c, rfl, HD.out ▸ HR.out, H.out.below (bl1 _), Kp.of_below (bl1 _)⟩
theorem Rdr.over {S : Nat → Prop} {w w' w'' : World} {b : Nat} {l : List Int} {pos pos' : Nat} (h : Rdr w b l pos) (h' : Rdr w' b l pos') (hc : w'.cell? ⟨b, 0, none⟩ = w.cell? ⟨b, 0, none⟩) (hk : Kp S w' w'') (hS : ∀ k, S k → w.heap.size ≤ k) : Rdr w'' b l pos' := by
  have hlt := h.lt
  obtain ⟨sv, base, h1, h2, h3, h4⟩ := h
  obtain ⟨sv', base', k1, k2, k3, k4⟩ := h'
  rw [blk_cell h1 0, blk_cell k1 0] at hc
  obtain rfl : sv' = sv := Option.some.inj hc
  exact ⟨sv', base', hk.blk (fun e => by have := hS _ e; omega) k1, k2.kp hk (fun g hg e => by have := (h2.blockGe g hg).2; have := hS g e; omega), k3, k4⟩
theorem use_bytes2 {P : Program} {f : FuncId} {args : Array Value} {b : Nat} {l : List Int} {pos : Nat} {w : World} {r : List Int} {er : Int} {R : Ending → World → Prop} (h : Calls P f args w (BytesPost w b l pos r er))
    (k : ∀ A c w1, Hid (OwI w1 w.heap.size 5 .u8 (.slice A r.length c) r) → Hid (Rdr w1 b l (pos + r.length)) → Hid (Kp (· = b) w w1) → Hid (w1.cell? ⟨b, 0, none⟩ = w.cell? ⟨b, 0, none⟩) → R (.returned (.tuple #[.slice A r.length c, .int .i64 er])) w1) : Calls P f args w R :=
  h.mono fun e w1 ⟨v, he, ho, hr, hk, hc⟩ => by
    obtain ⟨A, c, rfl⟩ := ho.form
    subst he
    exact k A c w1 ho hr hk hc
/-- what is written later lies in new blocks -/
theorem Kp.new {S T : Nat → Prop} {w w' w'' : World} (h : Kp S w w') (k : Kp T w' w'') (hT : ∀ x, T x → w.heap.size ≤ x ∨ S x) : Kp S w w'' :=
  ⟨k.os.trans h.os, k.tape.trans h.tape, k.output.trans h.output, Nat.le_trans h.size k.size, fun i hi hs => (k.block i (Nat.lt_of_lt_of_le hi h.size) (fun ht => by
    rcases hT i ht with h1 | h1
    · omega
    · exact hs h1)).trans (h.block i hi hs)⟩
def NilRel (i : Value) (w2 wr : World) : Prop := i = .int .i64 0 ∧ wr = w2
def SevenRel (g m : Nat) (i : Value) (w1 wr : World) : Prop :=
  ∃ (k : Nat) (cs : Array Value), k ≤ m ∧ i = .int .i64 k ∧ wr.heap[g]? = some (.cells cs 5 (0, 0)) ∧ m ≤ cs.size ∧ Kp (· = g) w1 wr
set_option maxRecDepth 20000 in
set_option maxHeartbeats 4000000 in
theorem reads_bytes (b : Nat) (l : List Int) (pos : Nat) (v : Value) (K M : Int) (w0 w : World) (h : Rdr w b l pos) (hby : Byt l) (hv : RdS w0 .u8 v (l.drop pos)) (HBL : Below w0.heap.size w0 w) (hb0 : w0.heap.size ≤ b) (hK : K = 4) (hM : I64 M) :
    Calls Try.prog 37 #[.pointer (some ⟨b, 0, none⟩), v, .agg #[.int .i64 K, .int .i64 M]] w (ReadsPost w0 w b l) := by
  have HR := Lib.hid hv
  have H := Lib.hid h
  have HB := Lib.hid hby
  have HL := Lib.hid HBL
  have hlen : (l.drop pos).length ≤ 140737488355328 := by obtain ⟨_, _, _, _, _, h⟩ := h; rw [List.length_drop]; omega
  have hle := h.le
  have hdl : (l.drop pos).length = l.length - pos := List.length_drop
  obtain ⟨i0, hi, hz0, hz1, hz2⟩ := info_parts info_u8
  obtain ⟨D, hD⟩ : ∃ D, l.drop pos = D := ⟨_, rfl⟩
  rw [hD] at hv HR hlen hdl
  obtain ⟨A, c, rfl, hc, hA0, hA⟩ := hv
  subst hK
  have HD := Lib.hid hD
  unfold I64 at hM
  obtain ⟨hM1, hM2⟩ := hM
  by_cases hneg : M < 0
  · clear hA hi hz0 hz1 hz2 hby h HBL hD hA0 hdl
    go_enter Try.func37, Try.ntmps37
    go_wp2_with fail
    refine use_b (octBytes_neg b M _ hneg) ?_
    intro w1 hb1
    have hc1 := keepc hb1 (p := ⟨w.heap.size, 1, none⟩) (v := .int .i64 M) (blk_cell (blk_new w _) 1)
    have B1 := Lib.hid (bl_tr (bl1 _) hb1.out)
    clear hb1
    go_wp2
    go_ret2
    exact ⟨pos, .slice A D.length c, by first | rfl | (simp [*]; done), HD.out ▸ HR.out, H.out.below B1.out, Kp.of_below B1.out⟩
  · obtain ⟨m, rfl⟩ := Int.eq_ofNat_of_zero_le (Int.not_lt.1 hneg)
    by_cases hm : D.length < m
    · have e1 : decide ((D.length : Int) < (m : Int)) = true := decide_eq_true (by omega)
      have hs : l.length < pos + m := by omega
      clear hA hi hz0 hz1 hz2 hby h HBL hD hA0 hdl
      go_enter Try.func37, Try.ntmps37
      go_wp2_with fail
      refine use_b (octBytes_short b l pos m _ (H.out.below (bl1 _)) hs (by omega)) ?_
      intro w1 hb1
      have hc1 := keepc hb1 (p := ⟨w.heap.size, 1, none⟩) (v := .int .i64 m) (blk_cell (blk_new w _) 1)
      have B1 := Lib.hid (bl_tr (bl1 _) hb1.out)
      clear hb1
      go_wp2
      go_ret2
      exact ⟨pos, .slice A D.length c, by first | rfl | (simp [*]; done), HD.out ▸ HR.out, H.out.below B1.out, Kp.of_below B1.out⟩
    · obtain ⟨A', c', hcut, hr'⟩ := cut_h 36 5 Try.underlying36 hi hz1 A c D m (by omega) hc hA0
      obtain ⟨A2, c2, hcut2, hr2⟩ := cut_l 36 5 Try.underlying36 hi hz1 A c D m (by omega) hc hA0
      have hR1 := Lib.hid (hr' w0 .u8 hA)
      have hR2 := Lib.hid (hr2 w0 .u8 hA)
      have hs : pos + m ≤ l.length := by omega
      have hrl : Hid ((D.take m).length = m) := by unfold Hid; rw [List.length_take]; omega
      have hm : m ≤ D.length := by omega
      have e1 : decide ((D.length : Int) < (m : Int)) = false := decide_eq_false (by omega)
      have hbw := h.lt
      have hw0 := HBL.size
      clear hA hi hz0 hz1 hz2 hby h HBL hD hA0 hdl hr' hr2
      obtain ⟨r, hr⟩ : ∃ r, D.take m = r := ⟨_, rfl⟩
      rw [hr] at hrl hR1
      have HRR := Lib.hid hr
      clear hr
      obtain ⟨n, hn⟩ : ∃ n, r.length = n := ⟨_, rfl⟩
      obtain rfl : n = m := by rw [← hn]; exact hrl.out
      have HN := Lib.hid hn
      clear hn hrl
      go_enter Try.func37, Try.ntmps37
      go_wp2_with fail
      refine use_bytes2 (octBytes_yes b l pos n _ (H.out.below (bl1 _)) hs) ?_
      rw [HD.out, HRR.out, HN.out]
      intro A1 c1 w1 ho1 hr1 hk1 he1
      have hc1 : w1.cell? ⟨w.heap.size, 1, none⟩ = some (.int .i64 (n : Int)) := hk1.out.cell (by simp; omega) (blk_cell (blk_new w _) 1)
      go_wp2_with fail
      have hk1' := Lib.hid (Kp.trans (Kp.of_below (bl1 _)) hk1.out)
      have B1 := Lib.hid (bl_kp HL.out hk1'.out (fun k hk => hk ▸ hb0))
      refine use_b (same_any _ _ r r _ ho1.out.rd (hR1.out.below B1.out)) ?_
      rw [decide_eq_true (rfl : r = r)]
      intro w2 hb2
      have hc2 := keepc hb2 hc1
      have hw1 : w.heap.size + 1 ≤ w1.heap.size := by have := hk1.out.size; simp at this; exact this
      have ho2 := ho1.out.below hb2.out
      rcases ho2.2 with ⟨hv, h0⟩ | ⟨g, cap, cur, hv, hg1, hg2, hg3, hg4, hg5, hg6⟩
      · injection hv with q1 q2 q3
        subst q1 q3
        have hn0 : n ≤ 0 := by rw [← HN.out]; omega
        have hn1 : decide ((0 : Int) < (n : Int)) = false := decide_eq_false (by omega)
        clear q2 h0 ho2
        go_wp2_with fail
        go_loopw [23] (fun i wr => NilRel i w2 wr) (fun i _ => 0)
        case atStart => exact ⟨rfl, rfl⟩
        case round =>
          obtain ⟨rfl, rfl⟩ := hrel
          go_wp2
          go_ret2
          refine ⟨pos + n, .slice A2 (D.length - n) c2, by first | rfl | (simp [*]; done), ?_, ?_, ?_⟩
          · rw [← List.drop_drop, HD.out]; exact hR2.out
          · exact hr1.out.below hb2.out
          · exact hk1'.out.trans (Kp.of_below hb2.out)
      · injection hv with q1 q2 q3
        subst q1 q3
        clear q2
        rw [HN.out] at hg3
        simp at hg1
        have hgw : w.heap.size ≠ g := by omega
        have HG := Lib.hid hg2
        clear hg2 hg6 ho2 hc1
        have hsz : n ≤ cur.size := by omega
        go_wp2_with fail
        go_loopw [23] (fun i wr => SevenRel g n i w2 wr) (fun i _ => n - (intOf i).toNat)
        case atStart => exact ⟨0, cur, by omega, rfl, HG.out, hsz, Kp.refl _ _⟩
        case round =>
          obtain ⟨k, cs, hk, rfl, hh, hcs, hkp⟩ := hrel
          have HH := Lib.hid hh
          have HK := Lib.hid hkp
          clear hh hkp
          by_cases hlt : k < n
          · have z1 : wr.frozen? ⟨g, k, none⟩ = false := blk_frozen HH.out k
            obtain ⟨u, z2⟩ : ∃ u, wr.cell? ⟨g, k, none⟩ = some u := ⟨_, (blk_cell HH.out k).trans (Array.getElem?_eq_getElem (by omega))⟩
            go_wp2
            go_roundw
            case measure => simp [intOf]; omega
            case rel => exact ⟨k + 1, cs.setIfInBounds k (.int .u8 7), by omega, by go_num, blk_set HH.out k _, by simpa using hcs, HK.out.set rfl _⟩
          · have hc3 : wr.cell? ⟨w.heap.size, 1, none⟩ = some (.int .i64 (n : Int)) := HK.out.cell hgw hc2
            go_wp2
            go_ret2
            refine ⟨pos + n, .slice A2 (D.length - n) c2, by first | rfl | (simp [*]; done), ?_, ?_, ?_⟩
            · rw [← List.drop_drop, HD.out]; exact hR2.out
            · exact Rdr.over (S := fun x => x = g) H.out (hr1.out.below hb2.out) (((hb2.out.cell (p := ⟨b, 0, none⟩) (by simp; omega)).trans he1.out).trans ((bl1 _).cell (p := ⟨b, 0, none⟩) hbw)) HK.out (fun k hk => by omega)
            · exact Kp.new (hk1'.out.trans (Kp.of_below hb2.out)) HK.out (fun x hx => .inl (by omega))
end Go.Proofs.Ytehcimecmbcdfaa
