/- Contract: ref11.Apart: codes in memory of their own share none (written by gen_apartn.py off XApart). -/
import Derived.Test.YtehcimecmbcdfaaXFamN
import Derived.Test.YtehcimecmbcdfaaXApart
set_option linter.unusedSimpArgs false
set_option linter.unusedVariables false
namespace Go.Proofs.Ytehcimecmbcdfaa
open Go.RowKit

theorem info_slN : (Try.prog.info? 62).map (fun i => (i.zero, i.size, i.bytes)) = some (some (.slice none 0 0), 1, 24) := by kernel_rfl
def apn1 (i : Nat) : Ins := ⟨1000 + i, 0, 0, 0, 0, 0⟩
def apn2 (i : Nat) : Ins := ⟨2000 + i, 0, 0, 0, 0, 0⟩
/-- the list of the lists -/
def CodesAt (w : World) (L : Addr) (N : Nat) (V : Nat → Value) : Prop := ∀ i, i < N → w.cell? ⟨(L.add (i * 4)).block, (L.add (i * 4)).off + 2, none⟩ = some (V i)
theorem CodesAt.kp {S : Nat → Prop} {w w1 : World} {L : Addr} {N : Nat} {V : Nat → Value} (h : CodesAt w L N V) (hk : Kp S w w1) (hs : ¬ S L.block) : CodesAt w1 L N V := fun i hi => hk.cell (by simp only [Addr.add_block]; exact hs) (h i hi)
def NApRel1 (w : World) (N : Nat) (V : Nat → Value) (len : Nat → Nat) (i : Value) (wr : World) : Prop :=
  ∃ t : Nat, t ≤ N ∧ i = .int .i64 t ∧ ApIN N V len apn1 w t wr
def NApRel1j (w : World) (N : Nat) (V : Nat → Value) (len : Nat → Nat) (t : Nat) (i : Value) (wr : World) : Prop :=
  ∃ j : Nat, j ≤ len t ∧ i = .int .i64 j ∧ ApJN N V len apn1 w t j wr
def NApRel2 (w : World) (N : Nat) (V : Nat → Value) (len : Nat → Nat) (v5 i : Value) (wr : World) : Prop :=
  ∃ t : Nat, t ≤ N ∧ i = .int .i64 t ∧ GrIN 62 N 20 V len apn1 apn2 w t v5 wr
def NApRel2j (X : List Ins) (dt : Ins) (Vt : Value) (w2 : World) (v7 i : Value) (wr : World) : Prop :=
  ∃ j : Nat, j ≤ 20 ∧ i = .int .i64 j ∧ GrJN X dt Vt w2 j v7 wr
def NApRel3j (w3 : World) (n : Nat) (i : Value) (wr : World) : Prop := ∃ t : Nat, t ≤ n + 20 ∧ i = .int .i64 t ∧ wr = w3
def NApRel3 (w3 : World) (N : Nat) (i : Value) (wr : World) : Prop := ∃ t : Nat, t ≤ N ∧ i = .int .i64 t ∧ wr = w3
set_option maxRecDepth 20000 in
set_option maxHeartbeats 4000000 in
theorem apartN_any (N : Nat) (V : Nat → Value) (len : Nat → Nat) (X : Nat → List Ins) (L : Addr) (c : Nat) (w : World) (hN : N ≤ 1000000) (hL : CodesAt w L N V) (hLb : ¬ FS N V L.block)
    (hX : ∀ i, i < N → OwN w 0 (V i) (X i) ∧ (X i).length = len i ∧ len i ≤ 1000000) (hA : Apt N V) :
    Calls Try.prog 48 #[.slice (some L) N c] w fun e w' => e = .returned (.bool true) ∧ Kp (FS N V) w w' := by
  have HL := Lib.hid hL
  have HLb := Lib.hid hLb
  have HX := Lib.hid hX
  have HA := Lib.hid hA
  clear hL hLb hX hA
  go_enter Try.func48, Try.ntmps48
  go_wp2_with fail
  go_loopw [3, 4] (fun i _ wr => NApRel1 w N V len i wr) (fun i _ _ => N - (intOf i).toNat)
  case atStart => exact ⟨0, Nat.zero_le _, rfl, Kp.refl _ _, X, fun i hi => ⟨(HX.out i hi).1, (HX.out i hi).2.1, fun h => absurd h (Nat.not_lt_zero _)⟩⟩
  case round =>
    obtain ⟨t, ht, rfl, hr⟩ := hrel
    have HR := Lib.hid hr
    have LR := Lib.hid (HL.out.kp hr.1 HLb.out)
    clear hr
    by_cases hlt : t < N
    · have hst := Lib.hid HR.out.start
      have hln := (HX.out t hlt).2.2
      obtain ⟨n, hn⟩ : ∃ n, len t = n := ⟨_, rfl⟩
      obtain ⟨At, ct, hv, -⟩ : ∃ A c, V t = .slice A n c ∧ True := by
        obtain ⟨A, c, h⟩ := (HX.out t hlt).1.form
        exact ⟨A, c, by rw [h, (HX.out t hlt).2.1, hn], trivial⟩
      have hc0 := LR.out t hlt
      rw [hv] at hc0
      rw [hn] at hln
      have HV := Lib.hid hv
      have HN := Lib.hid hn
      clear hv hn
      go_wp2_with fail
      go_loopw [4] (fun i wr => NApRel1j w N V len t i wr) (fun i _ => n - (intOf i).toNat)
      case atStart => exact ⟨0, Nat.zero_le _, rfl, hst.out⟩
      case round =>
        obtain ⟨j, hj, rfl, hr⟩ := hrel
        have HJ := Lib.hid hr
        have LJ := Lib.hid (HL.out.kp hr.1 HLb.out)
        rw [HN.out] at hj
        clear hr hc0
        have hc1 := LJ.out t hlt
        rw [HV.out] at hc1
        by_cases hjl : j < n
        · obtain ⟨g, c', q1, q2⟩ := HJ.out.own hlt (by rw [HN.out]; exact hjl)
          obtain ⟨y0, r0, f0⟩ := q2 0 (by decide)
          obtain ⟨y1, r1, f1⟩ := q2 1 (by decide)
          obtain ⟨y2, r2, f2⟩ := q2 2 (by decide)
          obtain ⟨y3, r3, f3⟩ := q2 3 (by decide)
          obtain ⟨y4, r4, f4⟩ := q2 4 (by decide)
          obtain ⟨y5, r5, f5⟩ := q2 5 (by decide)
          rw [Nat.add_zero] at r0 f0
          clear q2
          have q4 := q1
          rw [HV.out] at q1
          injection q1 with e1 e2 e3
          subst e1
          clear e2 e3
          have hs := Lib.hid (HJ.out.step HA.out hlt (by rw [HN.out]; exact hjl) q4)
          clear q4
          go_wp2
          go_roundw
          case measure => simp [intOf]; omega
          case rel => exact ⟨j + 1, by rw [HN.out]; omega, by go_num, hs.out⟩
        · have hd := Lib.hid (HJ.out.done (by rw [HN.out]; omega))
          go_wp2
          go_roundw
          case measure => simp [intOf]; omega
          case rel => exact ⟨t + 1, by omega, by go_num, hd.out⟩
    · have hg := Lib.hid (ApIN.grow (E2 := 62) (M := 20) (d := apn2) (show ApIN N V len apn1 w N wr by have := HR.out; rwa [show t = N by omega] at this))
      clear HR
      go_wp2_with fail
      have hVw : Hid (∀ i g, i < N → (V i).ownBlock = some g → g < w.heap.size) := fun i g hi hg => ((HX.out i hi).1.blockGe g hg).2
      go_loopw [5, 6] (fun v5 i wr => NApRel2 w N V len v5 i wr) (fun _ i _ => N - (intOf i).toNat)
      case atStart => exact ⟨0, Nat.zero_le _, rfl, hg.out⟩
      case round =>
        obtain ⟨t, ht, rfl, hr⟩ := hrel
        obtain ⟨wo, hwo⟩ : ∃ x, x = wr := ⟨_, rfl⟩
        subst hwo
        have HR := Lib.hid hr
        have LR := Lib.hid (HL.out.kp hr.1 HLb.out)
        clear hr hg
        by_cases hlt : t < N
        · have hln := (HX.out t hlt).2.2
          obtain ⟨n, hn⟩ : ∃ n, len t = n := ⟨_, rfl⟩
          obtain ⟨At, ct, hv, -⟩ : ∃ A c, V t = .slice A n c ∧ True := by
            obtain ⟨A, c, h⟩ := (HX.out t hlt).1.form
            exact ⟨A, c, by rw [h, (HX.out t hlt).2.1, hn], trivial⟩
          have h0 : Hid (∀ g, (V t).ownBlock = some g → ∃ n c, V t = .slice (some ⟨g, 0, none⟩) n c) := fun g hg => by
            rcases (HX.out t hlt).1.2 with ⟨h, _⟩ | ⟨g', cap, cur, h, _⟩
            · rw [h] at hg; cases hg
            · rw [h] at hg ⊢
              simp only [Value.ownBlock, Option.some.injEq] at hg
              subst hg
              exact ⟨_, _, rfl⟩
          obtain ⟨hk, Z, hz, hrow⟩ := HR.out
          have hst := Lib.hid (GrJN.start (dt := apn2 t) ((hrow t hlt).2.1 (Nat.le_refl _)))
          have hz1 := Lib.hid hz
          have hc0 := LR.out t hlt
          rw [hv] at hc0
          rw [hn] at hln
          have HV := Lib.hid hv
          have HN := Lib.hid hn
          clear hv hn hk hz hrow
          go_wp2_with fail
          go_loopw [7, 8] (fun v7 i wr2 => NApRel2j (List.replicate (len t) (apn1 t)) (apn2 t) (V t) wo v7 i wr2) (fun _ i _ => 20 - (intOf i).toNat)
          case atStart => exact ⟨0, Nat.zero_le _, rfl, by have := hst.out; rw [HV.out] at this ⊢; exact this⟩
          case round =>
            obtain ⟨j, hj, rfl, hr⟩ := hrel
            have HJ := Lib.hid hr
            have ho := Lib.hid hr.2.1
            clear hr hst
            have hlen : (List.replicate (len t) (apn1 t) ++ List.replicate j (apn2 t)).length = n + j := by rw [List.length_append, List.length_replicate, List.length_replicate, HN.out]
            have HLE := Lib.hid hlen
            by_cases hjl : j < 20
            · clear hlen
              go_wp2_with (at_builtin; refine ap_keepN 0 rfl (.tmp 54) (.tmp 58) 62 (.agg #[.int .i64 0, .int .i64 0, .int .i64 0, .int .i64 0, .int .i64 0, .int .i64 0]) 48 rfl Try.underlying62 info_ins rfl (by decide) u7 (List.replicate (len t) (apn1 t) ++ List.replicate j (apn2 t)) (apn2 t) rfl rfl ho.out (Nat.zero_le _) (by rw [HLE.out]; omega) (n + j + 1) (by rw [HLE.out]) ?_; intro A1 c1 w1 hO1 hg1 hat1 hk1)
              have hs := Lib.hid (HJ.out.step hO1.out hg1.out hat1.out hk1.out h0.out)
              go_roundw
              case measure => simp [intOf]; omega
              case rel => exact ⟨j + 1, by omega, by go_num, hs.out⟩
            · obtain ⟨A7, c7, hf⟩ := ho.out.form
              rw [hlen] at hf
              subst hf
              obtain rfl : j = 20 := by omega
              have hzl : Hid (((List.range t).map Z).length = t) := by unfold Hid; simp
              have h5 : Hid (OwV wr w.heap.size 62 u5 ((List.range t).map Z)) := hz1.out.kp HJ.out.1 (fun g hg e => by have := (hz1.out.blockGe g hg).1; have := hVw.out t g hlt e; omega)
              have hsz : w.heap.size ≤ wr.heap.size := Nat.le_trans HR.out.1.size HJ.out.1.size
              clear hlen
              go_wp2_with (at_builtin; refine ap_oneV w.heap.size rfl (.tmp 60) (.tmp 62) 103 62 (.slice none 0 0) 24 rfl Try.underlying103 info_slN rfl (by decide) u5 ((List.range t).map Z) (.slice A7 (n + 20) c7) rfl rfl rfl h5.out hsz (by rw [hzl.out]; omega) (t + 1) (by rw [hzl.out]) ?_; intro A1 c1 w1 hO1 hg1 hat1)
              have hs := Lib.hid (GrIN.step (v6 := .slice A1 (t + 1) c1) (w2 := w1) (by decide) HR.out HA.out hVw.out hlt HJ.out (fun l hl hlt => by rw [OwV.uniq hl h5.out]; exact hO1.out) hg1.out)
              go_roundw
              case measure => simp [intOf]; omega
              case rel => exact ⟨t + 1, by omega, by go_num, hs.out⟩
        · obtain ⟨hk, Z, hz, hrow⟩ := HR.out
          obtain ⟨tn, htn⟩ : ∃ x, t = x := ⟨_, rfl⟩
          obtain rfl : t = N := by omega
          have hz1 := Lib.hid hz
          have hkk := Lib.hid hk
          have hrw := Lib.hid hrow
          obtain ⟨A5, c5, hf, -, -, -, hA5, hc5⟩ := hz.form
          rw [List.length_map, List.length_range] at hf
          subst hf
          have HC5 := Lib.hid hc5
          clear hk hz hrow htn HR hA5 hc5
          go_wp2_with fail
          go_loopw [9, 10, 11, 12] (fun i _ _ _ wr => NApRel3 wo t i wr) (fun i _ _ _ _ => t - (intOf i).toNat)
          case atStart => exact ⟨0, Nat.zero_le _, rfl, rfl⟩
          case round =>
            obtain ⟨u, hu, rfl, rfl⟩ := hrel
            by_cases hlu : u < t
            · obtain ⟨hV, -, hZ⟩ := hrw.out u hlu
              obtain ⟨hZ, -⟩ := hZ hlu
              obtain ⟨g5, e5, q5⟩ := HC5.out u (by simpa using hlu)
              rw [List.getElem?_map, List.getElem?_range hlu, Option.map_some] at q5
              subst e5
              obtain ⟨n, hn⟩ : ∃ n, len u = n := ⟨_, rfl⟩
              have hln := (HX.out u hlu).2.2
              rw [hn] at hV hZ hln
              have hc0 := LR.out u hlu
              obtain ⟨Av, cv, ev, -, -, rv⟩ := hV
              obtain ⟨Az, cz, ez, -, -, rz⟩ := hZ.rd
              rw [List.length_replicate] at ev
              rw [List.length_append, List.length_replicate, List.length_replicate] at ez
              rw [ev] at hc0
              rw [ez] at q5
              have RV := Lib.hid rv
              have RZ := Lib.hid rz
              clear hZ rv rz hn ev ez
              go_wp2_with fail
              go_loopw [11, 12] (fun i _ wr2 => NApRel3j wr n i wr2) (fun i _ _ => n + 20 - (intOf i).toNat)
              case atStart => exact ⟨0, Nat.zero_le _, rfl, rfl⟩
              case round =>
                obtain ⟨m, hm, rfl, rfl⟩ := hrel
                by_cases hmn : m < n
                · obtain ⟨av, rfl, k1, -⟩ := RV.out.at_ m (by simpa using hmn)
                  obtain ⟨az, rfl, k2, -⟩ := RZ.out.at_ m (by simp; omega)
                  have k3 : (List.replicate n (apn1 u)).getD m zIns = apn1 u := by rw [List.getD_eq_getElem?_getD, List.getElem?_replicate, if_pos hmn]; rfl
                  have k4 : (List.replicate n (apn1 u) ++ List.replicate 20 (apn2 u)).getD m zIns = apn1 u := by rw [List.getD_eq_getElem?_getD, List.getElem?_append_left (by simpa using hmn), List.getElem?_replicate, if_pos hmn]; rfl
                  rw [k3] at k1
                  rw [k4] at k2
                  simp only [apn1] at k1 k2
                  have m24 : m < n + 20 := by omega
                  have mge : ¬ n ≤ m := by omega
                  clear k3 k4
                  go_wp2
                  go_roundw
                  case measure => simp [intOf]; omega
                  case rel => exact ⟨m + 1, by omega, by go_num, rfl⟩
                · by_cases hm2 : m < n + 20
                  · obtain ⟨az, rfl, k2, -⟩ := RZ.out.at_ m (by simp; omega)
                    have k4 : (List.replicate n (apn1 u) ++ List.replicate 20 (apn2 u)).getD m zIns = apn2 u := by rw [List.getD_eq_getElem?_getD, List.getElem?_append_right (by simp; omega), List.getElem?_replicate, List.length_replicate, if_pos (by omega)]; rfl
                    rw [k4] at k2
                    simp only [apn2] at k2
                    have mge : n ≤ m := by omega
                    clear k4
                    go_wp2
                    go_roundw
                    case measure => simp [intOf]; omega
                    case rel => exact ⟨m + 1, by omega, by go_num, rfl⟩
                  · go_wp2
                    go_roundw
                    case measure => simp [intOf]; omega
                    case rel => exact ⟨u + 1, by omega, by go_num, rfl⟩
            · go_wp2
              go_ret
              exact ⟨rfl, hkk.out⟩
end Go.Proofs.Ytehcimecmbcdfaa
