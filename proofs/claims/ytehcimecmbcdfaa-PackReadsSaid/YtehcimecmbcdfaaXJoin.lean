/- Slices of byte slices; the contract of octet.Join. -/
import Derived.Test.YtehcimecmbcdfaaXOctet1
set_option linter.unusedSimpArgs false
set_option linter.unusedVariables false
namespace Go.Proofs.Ytehcimecmbcdfaa
open Go.RowKit

/-- A slice of byte slices that is read. -/
def RdSS (w : World) (v : Value) (ls : List (List Int)) : Prop := ∃ A c, v = .slice A ls.length c ∧ ls.length ≤ c ∧ ls.length ≤ 9223372036854775807 ∧ (A = none → c = 0) ∧
  ∀ j, j < ls.length → ∃ ad sv, A = some ad ∧ w.cell? (ad.add j) = some sv ∧ RdS w .u8 sv (ls.getD j [])
theorem RdSS.below {w w1 : World} {v : Value} {ls : List (List Int)} (h : RdSS w v ls) (hb : Below w.heap.size w w1) : RdSS w1 v ls := by
  obtain ⟨A, c, h1, h2, h3, h4, h5⟩ := h
  refine ⟨A, c, h1, h2, h3, h4, fun j hj => ?_⟩
  obtain ⟨ad, sv, a, b, c⟩ := h5 j hj
  exact ⟨ad, sv, a, keepc hb b, c.below hb⟩
/-- two slices side by side in a literal -/
theorem RdSS.two {W : World} {u v : Value} {l m : List Int} (hu : RdS W .u8 u l) (hv : RdS W .u8 v m) :
    RdSS (W.alloc (.cells #[u, v] 36)) (.slice (some ⟨W.heap.size, 0, none⟩) 2 2) [l, m] := by
  refine ⟨_, 2, rfl, Nat.le_refl _, by simp, (fun h => by cases h), fun j hj => ?_⟩
  have hb : Below W.heap.size W (W.alloc (.cells #[u, v] 36)) := bl1 _
  match j, hj with
  | 0, _ => exact ⟨_, u, rfl, by rw [add0, cell_of_row _ W.heap.size 0 #[u, v] 36 (0, 0) (heap_alloc_new W _)]; rfl, hu.below hb⟩
  | 1, _ => exact ⟨_, v, rfl, by rw [add0, cell_of_row _ W.heap.size 1 #[u, v] 36 (0, 0) (heap_alloc_new W _)]; rfl, hv.below hb⟩
theorem take_flatten_succ {ls : List (List Int)} {k : Nat} (h : k < ls.length) : (ls.take (k + 1)).flatten = (ls.take k).flatten ++ ls.getD k [] := by
  rw [List.take_succ_eq_append_getElem h, List.flatten_append, List.getD_eq_getElem?_getD, List.getElem?_eq_getElem h]
  simp
theorem flatten_take_le (ls : List (List Int)) (k : Nat) : (ls.take k).flatten.length ≤ ls.flatten.length := by
  conv => rhs; rw [← List.take_append_drop k ls, List.flatten_append, List.length_append]
  omega
def JoinRel (w : World) (ls : List (List Int)) (v3 i : Value) (wr : World) : Prop :=
  ∃ k : Nat, k ≤ ls.length ∧ i = .int .i64 k ∧ OwI wr w.heap.size 5 .u8 v3 (ls.take k).flatten ∧ Below w.heap.size w wr
set_option maxHeartbeats 400000 in
theorem octJoin (v : Value) (ls : List (List Int)) (w : World) (hv : RdSS w v ls) (hl : ls.flatten.length ≤ 140737488355328) :
    Calls Try.prog 29 #[v] w (OwnPost w 5 .u8 ls.flatten) := by
  obtain ⟨A, c, rfl, hc, hmax, hA0, hcell⟩ := hv
  have HC := Lib.hid hcell
  clear hcell hA0
  go_enter Try.func29, Try.ntmps29
  go_wp2_with fail
  go_loopw [3, 9] (fun v3 i wr => JoinRel w ls v3 i wr) (fun _ i _ => ls.length - (intOf i).toNat)
  case atStart => exact ⟨0, Nat.zero_le _, rfl, OwI.lit (k := .u8) (E := 5) [] (Nat.le_refl _) (by simp), bl1 _⟩
  case round =>
    obtain ⟨k, hk, rfl, ho, hb⟩ := hrel
    obtain ⟨F, hF⟩ : ∃ F, (ls.take k).flatten = F := ⟨_, rfl⟩
    rw [hF] at ho
    have HF := Lib.hid hF
    clear hF
    have HO := Lib.hid ho
    have HB := Lib.hid hb
    have hsz := hb.size
    clear ho hb
    by_cases hlt : k < ls.length
    · obtain ⟨ad, sv, rfl, c1, r1⟩ := HC.out k hlt
      have hb1 := flatten_take_le ls (k + 1)
      have hs := take_flatten_succ hlt
      obtain ⟨m, hm⟩ : ∃ m, ls.getD k [] = m := ⟨_, rfl⟩
      rw [hm] at r1 hs
      rw [HF.out] at hs
      obtain ⟨A5, c5, rfl, hc5, h50, r5⟩ := r1
      have c2 := keepc HB c1
      have R2 := Lib.hid (show RdS wr .u8 (.slice A5 m.length c5) m from RdS.below ⟨A5, c5, rfl, hc5, h50, r5⟩ HB.out)
      rw [hs, List.length_append] at hb1
      have HS := Lib.hid hs
      have p0 : (k : Int) < (ls.length : Int) := by omega
      clear hs hm r5
      go_wp2_with (at_builtin; refine ap_row w.heap.size rfl (.tmp 13) (.tmp 14) 36 5 .u8 1 rfl Try.underlying36 info_u8 (by decide) u3 F (.slice A5 m.length c5) m rfl rfl HO.out R2.out hsz (by omega) _ rfl ?_; intro A1 c1 w1 hO1 hg1 hat1)
      go_roundw
      case measure => simp [intOf]; omega
      case rel => exact ⟨k + 1, by omega, by go_num, by rw [HS.out]; exact hO1.out, bl_grown HB.out HO.out hsz hg1.out⟩
    · go_wp2
      go_ret
      exact ⟨_, rfl, by have h := HO.out; rw [← HF.out, List.take_of_length_le (by omega)] at h; exact h, HB.out⟩
end Go.Proofs.Ytehcimecmbcdfaa
