/- The walk of the law OctetBack. -/
import Derived.Test.YtehcimecmbcdfaaXLaw01
import Derived.Test.YtehcimecmbcdfaaXJoin
set_option linter.unusedSimpArgs false
set_option linter.unusedVariables false
namespace Go.Proofs.Ytehcimecmbcdfaa
open Go.RowKit

def enc1 (n : Int) : List Int := vint (zig n) ++ (if 0 ≤ n then vint n.toNat else [])
def encs (ns : List Int) : List Int := (ns.map enc1).flatten
theorem sint_of_vint {n : Int} (h : I64 n) (r : List Int) : sintOf (vint (zig n) ++ r) = (n, (vint (zig n)).length, 0) := by
  simp only [sintOf, vread_of_vint (zig_lt h), unzig_zig h]
theorem uint_of_vint {m : Nat} (h : m < 9223372036854775808) (r : List Int) : uintOf (vint m ++ r) = ((m : Int), (vint m).length, 0) := by
  simp only [uintOf, vread_of_vint (show m < 18446744073709551616 by omega), if_pos h]
theorem enc1_len {n : Int} (h : I64 n) : (enc1 n).length ≤ 20 := by
  have h1 := vint_len10 (zig_lt h)
  unfold enc1
  rw [List.length_append]
  unfold I64 at h
  split
  · have h2 := vint_len10 (x := n.toNat) (by omega)
    omega
  · simp; omega
theorem encs_len : ∀ (ns : List Int), (∀ n ∈ ns, I64 n) → (encs ns).length ≤ 20 * ns.length
  | [], _ => by simp [encs]
  | n :: t, h => by
    have h1 := enc1_len (h n (by simp))
    have h2 := encs_len t (fun m hm => h m (by simp [hm]))
    simp only [encs, List.map_cons, List.flatten_cons, List.length_append, List.length_cons] at h2 ⊢
    omega
theorem encs_succ {ns : List Int} {k : Nat} (h : k < ns.length) : encs (ns.take (k + 1)) = encs (ns.take k) ++ enc1 (ns.getD k 0) := by
  unfold encs
  rw [List.take_succ_eq_append_getElem h, List.map_append, List.flatten_append, List.getD_eq_getElem?_getD, List.getElem?_eq_getElem h]
  simp
theorem encs_drop (ns : List Int) (k : Nat) : (encs ns).drop (encs (ns.take k)).length = encs (ns.drop k) := by
  have h : encs ns = encs (ns.take k) ++ encs (ns.drop k) := by
    unfold encs
    rw [← List.flatten_append, ← List.map_append, List.take_append_drop]
  rw [h, List.drop_append_of_le_length (Nat.le_refl _), List.drop_length, List.nil_append]
theorem encs_cons {ns : List Int} {k : Nat} (h : k < ns.length) : encs (ns.drop k) = enc1 (ns.getD k 0) ++ encs (ns.drop (k + 1)) := by
  unfold encs
  rw [drop_getD h]
  simp
theorem encs_byt (ns : List Int) (h : ∀ n ∈ ns, I64 n) : Byt (encs ns) := by
  intro c hc
  obtain ⟨l, hl, hc⟩ := List.mem_flatten.1 hc
  obtain ⟨n, hn, rfl⟩ := List.mem_map.1 hl
  unfold enc1 at hc
  rcases List.mem_append.1 hc with hc | hc
  · exact vint_byt64 (zig_lt (h n hn)) c hc
  · split at hc
    · have := h n hn; unfold I64 at this
      exact vint_byt64 (x := n.toNat) (by omega) c hc
    · simp at hc
theorem encs_take_le (ns : List Int) (k : Nat) : (encs (ns.take k)).length ≤ (encs ns).length := by
  have h : encs ns = encs (ns.take k) ++ encs (ns.drop k) := by
    unfold encs
    rw [← List.flatten_append, ← List.map_append, List.take_append_drop]
  rw [h, List.length_append]; omega

def BackRel (w : World) (ns : List Int) (v3 i : Value) (wr : World) : Prop :=
  ∃ k : Nat, k ≤ ns.length ∧ i = .int .i64 k ∧ RdS wr .u8 v3 (encs (ns.take k)) ∧ Below w.heap.size w wr
def BackRel2 (w : World) (ns : List Int) (p : Nat) (i : Value) (wr : World) : Prop :=
  ∃ k : Nat, k ≤ ns.length ∧ i = .int .i64 k ∧ Rdr wr p (encs ns) (encs (ns.take k)).length ∧ Below w.heap.size w wr
set_option maxHeartbeats 2000000 in
theorem wOctetBack (v : Value) (ns : List Int) (w : World) (hv : RdS w .i64 v ns) (hI : ∀ n ∈ ns, I64 n) (hl : ns.length ≤ 1048576) :
    Calls Try.prog 8 #[v] w fun e w' => e = .returned (.bool true) ∧ Below w.heap.size w w' := by
  obtain ⟨A, c, rfl, hc, hA0, hA⟩ := hv
  have HA := Lib.hid hA
  have HI := Lib.hid hI
  have hlen := encs_len ns hI
  have HL := Lib.hid hlen
  clear hA hI hA0 hlen
  go_enter Try.func8, Try.ntmps8
  go_wp2_with fail
  refine use_b (awake01 _) ?_
  intro w1 hb1
  go_wp2_with fail
  go_loopw [3, 4] (fun v3 i wr => BackRel w ns v3 i wr) (fun _ i _ => ns.length - (intOf i).toNat)
  case atStart => exact ⟨0, Nat.zero_le _, rfl, RdS.nil _ _, hb1.out⟩
  case round =>
    obtain ⟨k, hk, rfl, hr, hb⟩ := hrel
    obtain ⟨B, hB⟩ : ∃ B, encs (ns.take k) = B := ⟨_, rfl⟩
    rw [hB] at hr
    obtain ⟨A3, c3, rfl, hc3, h30, h3⟩ := hr
    have HR : Hid (RdS wr .u8 (.slice A3 B.length c3) B) := ⟨A3, c3, rfl, hc3, h30, h3⟩
    have HBB := Lib.hid hB
    have HB := Lib.hid hb
    clear hb h3 hc3 h30 hB hb1
    by_cases hlt : k < ns.length
    · obtain ⟨ad, rfl, hcell⟩ := HA.out.at_ k hlt
      obtain ⟨n, hn⟩ : ∃ x, ns.getD k 0 = x := ⟨_, rfl⟩
      rw [hn] at hcell
      have hIn : I64 n := by
        refine HI.out n ?_
        rw [← hn, List.getD_eq_getElem?_getD, List.getElem?_eq_getElem hlt]
        exact List.getElem_mem hlt
      have HIn := Lib.hid hIn
      have hs := encs_succ hlt
      rw [hn, HBB.out] at hs
      have HS := Lib.hid hs
      have hbnd := encs_take_le ns (k + 1)
      rw [hs, List.length_append] at hbnd
      have hc2 := keepc HB hcell
      have p0 : (k : Int) < (ns.length : Int) := by omega
      clear hn hs
      unfold I64 at hIn
      obtain ⟨n1, n2⟩ := hIn
      have hlx := HL.out
      by_cases h0 : 0 ≤ n
      · obtain ⟨m, rfl⟩ := Int.eq_ofNat_of_zero_le h0
        have HS1 := Lib.hid (show enc1 (m : Int) = vint (zig (m : Int)) ++ vint m by unfold enc1; rw [if_pos (by omega)]; rfl)
        go_wp2_with fail
        refine use_own (octInt_any _ _ HIn.out) ?_
        obtain ⟨X, hX⟩ : ∃ X, vint (zig ((m : Nat) : Int)) = X := ⟨_, rfl⟩
        rw [hX]
        have HX := Lib.hid hX
        clear hX
        intro v5 w5 hb5 ho5
        obtain ⟨A5, c5, rfl⟩ := ho5.out.form
        have ha5 := keepc hb5 hc2
        go_wp2_with fail
        have hxl : X.length + B.length ≤ 140737488355328 := by
          rw [HS1.out, List.length_append, HX.out] at hbnd
          omega
        refine use_own (octJoin _ [B, X] _ (RdSS.two (HR.out.below hb5.out) ho5.out.rd) (by simp; omega)) ?_
        obtain ⟨Z, hZ⟩ : ∃ Z, ([B, X] : List (List Int)).flatten = Z := ⟨_, rfl⟩
        rw [hZ]
        have HZ := Lib.hid hZ
        clear hZ
        intro v6 w6 hb6 ho6
        obtain ⟨A6, c6, rfl⟩ := ho6.out.form
        have B6 := Lib.hid (bl_tr (bl_alloc (bl_tr HB.out hb5.out) _) hb6.out)
        have ha6 : w6.cell? (ad.add k) = _ := keepc B6 hcell
        clear ha5 hb5 hb6 ho5
        go_wp2_with fail
        refine use_own2 (octUint_yes m _ (by omega)) ?_
        obtain ⟨U, hU⟩ : ∃ U, vint m = U := ⟨_, rfl⟩
        rw [hU]
        have HU := Lib.hid hU
        clear hU
        intro v7 w7 hb7 ho7
        obtain ⟨A7, c7, rfl⟩ := ho7.out.form
        have B7 := Lib.hid (bl_tr B6.out hb7.out)
        have ha7 : w7.cell? (ad.add k) = _ := keepc B7 hcell
        have hrU := Lib.hid ho7.out.rd
        have hr6 := Lib.hid (RdS.below ho6.out.rd hb7.out)
        clear ha6 hb7 ho7 ho6 B6
        go_wp2_with fail
        have hzl : Z.length + U.length ≤ 140737488355328 := by
          rw [HS1.out, List.length_append, HX.out] at hbnd
          rw [HU.out] at hbnd
          have h1 : Z.length = B.length + X.length := by rw [← HZ.out]; simp
          omega
        refine use_own (octJoin _ [Z, U] _ (RdSS.two hr6.out hrU.out) (by simp; omega)) ?_
        intro v8 w8 hb8 ho8
        have B8 := Lib.hid (bl_tr (bl_alloc B7.out _) hb8.out)
        clear ha7 hb8 B7
        go_wp2
        go_roundw
        case measure => simp [intOf]; omega
        case rel =>
          refine ⟨k + 1, by omega, by go_num, ?_, B8.out⟩
          have h1 := ho8.out.rd
          rw [show ([Z, U] : List (List Int)).flatten = encs (ns.take (k + 1)) by rw [HS.out, HS1.out, HX.out, HU.out, ← HZ.out]; simp] at h1
          exact h1
      · have HS1 := Lib.hid (show enc1 n = vint (zig n) by unfold enc1; rw [if_neg (by omega), List.append_nil])
        go_wp2_with fail
        refine use_own (octInt_any _ _ HIn.out) ?_
        obtain ⟨X, hX⟩ : ∃ X, vint (zig n) = X := ⟨_, rfl⟩
        rw [hX]
        have HX := Lib.hid hX
        clear hX
        intro v5 w5 hb5 ho5
        obtain ⟨A5, c5, rfl⟩ := ho5.out.form
        have ha5 := keepc hb5 hc2
        go_wp2_with fail
        have hxl : X.length + B.length ≤ 140737488355328 := by
          rw [HS1.out, HX.out] at hbnd
          omega
        refine use_own (octJoin _ [B, X] _ (RdSS.two (HR.out.below hb5.out) ho5.out.rd) (by simp; omega)) ?_
        obtain ⟨Z, hZ⟩ : ∃ Z, ([B, X] : List (List Int)).flatten = Z := ⟨_, rfl⟩
        rw [hZ]
        have HZ := Lib.hid hZ
        clear hZ
        intro v6 w6 hb6 ho6
        obtain ⟨A6, c6, rfl⟩ := ho6.out.form
        have B6 := Lib.hid (bl_tr (bl_alloc (bl_tr HB.out hb5.out) _) hb6.out)
        have ha6 : w6.cell? (ad.add k) = _ := keepc B6 hcell
        clear ha5 hb5 hb6 ho5
        go_wp2_with fail
        refine use_b (octUint_no n _ (by omega)) ?_
        intro w7 hb7
        have B7 := Lib.hid (bl_tr B6.out hb7.out)
        have ha7 : w7.cell? (ad.add k) = _ := keepc B7 hcell
        obtain ⟨U, hU⟩ : ∃ U : List Int, U = [] := ⟨_, rfl⟩
        have HU := Lib.hid hU
        have hrU := Lib.hid (show RdS w7 .u8 (.slice none 0 0) U by rw [hU]; exact RdS.nil _ _)
        have hr6 := Lib.hid (RdS.below ho6.out.rd hb7.out)
        clear ha6 hb7 ho6 B6 hU
        go_wp2_with fail
        have hzl : Z.length + U.length ≤ 140737488355328 := by
          rw [HS1.out, HX.out] at hbnd
          have h1 : Z.length = B.length + X.length := by rw [← HZ.out]; simp
          have h2 : U.length = 0 := by rw [HU.out]; rfl
          omega
        refine use_own (octJoin _ [Z, U] _ (RdSS.two hr6.out hrU.out) (by simp; omega)) ?_
        intro v8 w8 hb8 ho8
        have B8 := Lib.hid (bl_tr (bl_alloc B7.out _) hb8.out)
        clear ha7 hb8 B7
        go_wp2
        go_roundw
        case measure => simp [intOf]; omega
        case rel =>
          refine ⟨k + 1, by omega, by go_num, ?_, B8.out⟩
          have h1 := ho8.out.rd
          rw [show ([Z, U] : List (List Int)).flatten = encs (ns.take (k + 1)) by rw [HS.out, HS1.out, HX.out, HU.out, ← HZ.out]; simp] at h1
          exact h1
    · have hk2 : k = ns.length := by omega
      have hfull := HBB.out
      rw [hk2, List.take_length] at hfull
      have HF := Lib.hid hfull
      have hbl : B.length ≤ 140737488355328 := by have := HL.out; rw [hfull] at this; omega
      clear hfull hk2 HBB
      go_wp2_with fail
      refine use_new HR.out hbl ?_
      intro p w2 hb2 hp hr2
      have HP := Lib.hid (Nat.le_trans HB.out.size hp.out)
      have B2 := Lib.hid (bl_tr HB.out hb2.out)
      clear HB hb2 hp HR
      go_wp2_with fail
      go_loopw [8] (fun i wr => BackRel2 w ns p i wr) (fun i _ => ns.length - (intOf i).toNat)
      case atStart => exact ⟨0, Nat.zero_le _, rfl, by rw [HF.out]; exact hr2.out, B2.out⟩
      case round =>
        obtain ⟨j, hj, rfl, hrj, hbj⟩ := hrel
        have RJ := Lib.hid hrj
        have BJ := Lib.hid hbj
        clear hrj hbj hr2 B2 hlt
        by_cases hlt : j < ns.length
        · obtain ⟨ad, rfl, hcell⟩ := HA.out.at_ j hlt
          obtain ⟨n, hn⟩ : ∃ x, ns.getD j 0 = x := ⟨_, rfl⟩
          rw [hn] at hcell
          have hIn : I64 n := by
            refine HI.out n ?_
            rw [← hn, List.getD_eq_getElem?_getD, List.getElem?_eq_getElem hlt]
            exact List.getElem_mem hlt
          have HIn := Lib.hid hIn
          have hd1 := Lib.hid (show (encs ns).drop (encs (ns.take j)).length = enc1 n ++ encs (ns.drop (j + 1)) by rw [encs_drop, encs_cons hlt, hn])
          have hsucc := Lib.hid (show (encs (ns.take (j + 1))).length = (encs (ns.take j)).length + (enc1 n).length by rw [encs_succ hlt, hn, List.length_append])
          have hc2 := keepc BJ hcell
          have p0 : (j : Int) < (ns.length : Int) := by omega
          have hby := Lib.hid (encs_byt ns HI.out)
          clear hn
          unfold I64 at hIn
          obtain ⟨n1, n2⟩ := hIn
          by_cases h0 : 0 ≤ n
          · obtain ⟨m, rfl⟩ := Int.eq_ofNat_of_zero_le h0
            have HS1 := Lib.hid (show enc1 (m : Int) = vint (zig (m : Int)) ++ vint m by unfold enc1; rw [if_pos (by omega)]; rfl)
            go_wp2_with fail
            refine use_rd (octRInt p _ _ _ RJ.out hby.out) ?_
            rw [hd1.out, HS1.out, List.append_assoc, sint_of_vint HIn.out]
            intro w5 hk5 r5
            have B5 := Lib.hid (bl_kp BJ.out hk5.out (fun k hk => hk ▸ HP.out))
            have hc5 : w5.cell? (ad.add j) = _ := keepc B5 hcell
            go_wp2_with fail
            refine use_rd (octRUint p _ _ _ r5.out hby.out) ?_
            rw [← List.drop_drop, hd1.out, HS1.out, List.append_assoc, List.drop_append_of_le_length (Nat.le_refl _), List.drop_length, List.nil_append, uint_of_vint (by omega)]
            intro w6 hk6 r6
            have B6 := Lib.hid (bl_kp B5.out hk6.out (fun k hk => hk ▸ HP.out))
            have hc6 : w6.cell? (ad.add j) = _ := keepc B6 hcell
            clear hk5 hk6 hc5 hc2
            go_wp2
            go_roundw
            case measure => simp [intOf]; omega
            case rel =>
              refine ⟨j + 1, by omega, by go_num, ?_, B6.out⟩
              have h1 := r6.out
              rw [hsucc.out, HS1.out, List.length_append, ← Nat.add_assoc]
              exact h1
          · have HS1 := Lib.hid (show enc1 n = vint (zig n) by unfold enc1; rw [if_neg (by omega), List.append_nil])
            go_wp2_with fail
            refine use_rd (octRInt p _ _ _ RJ.out hby.out) ?_
            rw [hd1.out, HS1.out, sint_of_vint HIn.out]
            intro w5 hk5 r5
            have B5 := Lib.hid (bl_kp BJ.out hk5.out (fun k hk => hk ▸ HP.out))
            have hc5 : w5.cell? (ad.add j) = _ := keepc B5 hcell
            clear hk5 hc2
            go_wp2
            go_roundw
            case measure => simp [intOf]; omega
            case rel =>
              refine ⟨j + 1, by omega, by go_num, ?_, B5.out⟩
              have h1 := r5.out
              rw [hsucc.out, HS1.out]
              exact h1
        · have hj2 : j = ns.length := by omega
          have hfull := RJ.out
          rw [hj2, List.take_length] at hfull
          have RF := Lib.hid hfull
          clear hj2 hfull
          go_wp2_with fail
          refine use_b (octLeft p _ _ _ RF.out) ?_
          intro w5 hb5
          go_wp2_with fail
          refine use_b (octDone p _ _ _ (RF.out.below hb5.out)) ?_
          rw [if_neg (Nat.lt_irrefl _)]
          intro w6 hb6
          go_wp2
          go_ret
          exact ⟨by first | rfl | (simp; done), bl_tr (bl_tr BJ.out hb5.out) hb6.out⟩
end Go.Proofs.Ytehcimecmbcdfaa
