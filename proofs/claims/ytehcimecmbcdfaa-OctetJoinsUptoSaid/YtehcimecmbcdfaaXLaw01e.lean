/- The walk of the law OctetJoins. -/
import Derived.Test.YtehcimecmbcdfaaXApart
import Derived.Test.YtehcimecmbcdfaaXJoin
import Derived.Deep.RegionWith
set_option linter.unusedSimpArgs false
set_option linter.unusedVariables false
namespace Go.Proofs.Ytehcimecmbcdfaa
open Go.RowKit

theorem use_roomy {v : Value} {l : List Int} {w : World} {R : Ending → World → Prop} (h : RdS w .u8 v l) (hl : l.length ≤ 140737488354304)
    (k : ∀ g w1, Hid (Below w.heap.size w w1) → Hid (w.heap.size ≤ g) → Hid (Room w1 g l) → R (.returned (.slice (some ⟨g, 0, none⟩) l.length (l.length + 40))) w1) : Calls Try.prog 28 #[v] w R :=
  (roomy_any v l w h hl).mono fun e w1 ⟨g, he, h1, h2, h3⟩ => by
    subst he
    exact k g w1 h3 h1 h2
def rmv (ls : List (List Int)) (G : Nat → Nat) (i : Nat) : Value := .slice (some ⟨G i, 0, none⟩) (ls.getD i []).length ((ls.getD i []).length + 40)
theorem Kp.of_grown {w w1 : World} {row : Option Nat} (h : w.grownBy w1 row) : Kp (fun g => row = some g) w w1 := ⟨h.os, h.tape, h.output, h.size, fun i hi hn => h.block i hi (fun e => hn e.symm)⟩
theorem OwI.offV {w w1 : World} {base base' : Nat} {E E2 : TypeId} {k : IntKind} {v v3 : Value} {l : List Int} {xs : List Value} (h : OwI w base E k v l) (h3 : OwV w base' E2 v3 xs) (hE : E ≠ E2) (hg : w.grownBy w1 v3.ownBlock) : OwI w1 base E k v l :=
  h.kp (Kp.of_grown hg) (fun g hg e => by
    obtain ⟨cs, hcs⟩ := h.heap hg
    exact h3.ne hcs hE e)
theorem Room.offV {w w1 : World} {base' g : Nat} {E2 : TypeId} {v3 : Value} {l : List Int} {xs : List Value} (h : Room w g l) (h3 : OwV w base' E2 v3 xs) (hE : 5 ≠ E2) (hg : w.grownBy w1 v3.ownBlock) : Room w1 g l :=
  h.kp (Kp.of_grown hg) (fun e => h3.ne h hE e)
theorem Room.lt {w : World} {g : Nat} {l : List Int} (h : Room w g l) : g < w.heap.size := blk_lt h
theorem rmv_succ (ls : List (List Int)) (G : Nat → Nat) (t g : Nat) : (List.range (t + 1)).map (rmv ls fun i => if i = t then g else G i) = (List.range t).map (rmv ls G) ++ [.slice (some ⟨g, 0, none⟩) (ls.getD t []).length ((ls.getD t []).length + 40)] := by
  rw [List.range_succ, List.map_append, List.map_cons, List.map_nil]
  congr 1
  · exact List.map_congr_left fun i hi => by
      have := List.mem_range.1 hi
      simp only [rmv]
      rw [if_neg (by omega)]
  · simp [rmv]
theorem flat_get (ls : List (List Int)) (i : Nat) (h : i < ls.length) : (ls.getD i []).length ≤ ls.flatten.length := by
  have h1 := flatten_take_le ls (i + 1)
  rw [take_flatten_succ h, List.length_append] at h1
  omega
theorem RdSS.rooms {w : World} {base : Nat} {v3 : Value} {ls : List (List Int)} {G : Nat → Nat} (h : OwV w base 36 v3 ((List.range ls.length).map (rmv ls G))) (hr : ∀ i, i < ls.length → Room w (G i) (ls.getD i [])) (hl : ls.flatten.length ≤ 1048576) : RdSS w v3 ls := by
  obtain ⟨A, c, e, h1, h2, h3, -, h4⟩ := h.form
  rw [List.length_map, List.length_range] at e h1 h2 h4
  refine ⟨A, c, e, h1, h2, h3, fun j hj => ?_⟩
  obtain ⟨g, e1, e2⟩ := h4 j hj
  refine ⟨_, rmv ls G j, e1, by rw [add0, e2, List.getElem?_map, List.getElem?_range hj]; rfl, (hr j hj).rd ?_⟩
  have := flat_get ls j hj
  omega
def HldRel (w w1 : World) (n : Nat) (i : Value) (wr : World) : Prop := ∃ t : Nat, t ≤ n ∧ i = .int .i64 t ∧ Below w1.heap.size w1 wr
/-- two lists of bytes in memory of their own share none -/
theorem apart_two {W X : World} {va vb : Value} {l m : List Int} {p : Nat} (ha : OwI W 0 5 .u8 va l) (hb : OwI W 0 5 .u8 vb m) (hla : l.length ≤ 140737488354304) (hlb : m.length ≤ 140737488354304)
    (hne : ∀ g, va.ownBlock = some g → vb.ownBlock ≠ some g) (hbl : Below W.heap.size W X) (hp : W.heap.size ≤ p) (hX : X.heap[p]? = some (.cells #[va, vb] 36 (0, 0))) :
    Calls Try.prog 31 #[.slice (some ⟨p, 0, none⟩) 2 2] X fun e w' => e = .returned (.bool true) ∧ Kp (fun g => va.ownBlock = some g ∨ vb.ownBlock = some g) X w' := by
  have hc : ∀ i, X.cell? ⟨p, i, none⟩ = #[va, vb][i]? := fun i => blk_cell hX i
  have hF : ∀ g, FS 2 (fun i => if i = 0 then va else vb) g → va.ownBlock = some g ∨ vb.ownBlock = some g := by
    rintro g ⟨i, hi, h⟩
    by_cases h0 : i = 0
    · simp only [if_pos h0] at h; exact .inl h
    · simp only [if_neg h0] at h; exact .inr h
  refine (apart_any 2 (fun i => if i = 0 then va else vb) (fun i => if i = 0 then l.length else m.length) (fun i => if i = 0 then l else m) ⟨p, 0, none⟩ 2 _ (by decide) ?_ ?_ ?_ ?_).mono ?_
  · intro i hi
    rw [add0, hc]
    match i, hi with
    | 0, _ => rfl
    | 1, _ => rfl
  · intro h
    rcases hF _ h with h | h
    · have := (ha.blockGe _ h).2; simp at this; omega
    · have := (hb.blockGe _ h).2; simp at this; omega
  · intro i hi
    by_cases h0 : i = 0
    · subst h0; exact ⟨ha.below hbl, rfl, hla⟩
    · simp only [if_neg h0]; exact ⟨hb.below hbl, trivial, hlb⟩
  · intro i j g hi hj hij h1 h2
    by_cases h0 : i = 0
    · simp only [if_pos h0] at h1
      simp only [if_neg (show ¬ j = 0 by omega)] at h2
      exact hne g h1 h2
    · simp only [if_neg h0] at h1
      simp only [if_pos (show j = 0 by omega)] at h2
      exact hne g h2 h1
  · rintro e w' ⟨he, hk⟩
    exact ⟨he, hk.mono hF⟩
theorem use_kp {P : Program} {n : FuncId} {args : Array Value} {W0 W : World} {v : Value} {S : Nat → Prop} {R : Ending → World → Prop}
    (h : Calls P n args W (fun e w' => e = .returned v ∧ Kp S W0 w')) (k : ∀ w1, Hid (Kp S W0 w1) → R (.returned v) w1) : Calls P n args W R :=
  h.mono fun e w1 ⟨he, hb⟩ => by subst he; exact k w1 hb
/-- the roomy lists so far, and what is wanted -/
def JnsRel (w : World) (ls : List (List Int)) (v3 v4 i : Value) (wr : World) : Prop :=
  ∃ t : Nat, t ≤ ls.length ∧ i = .int .i64 t ∧ Below w.heap.size w wr ∧ OwI wr w.heap.size 5 .u8 v4 (ls.take t).flatten ∧
    ∃ G : Nat → Nat, OwV wr w.heap.size 36 v3 ((List.range t).map (rmv ls G)) ∧ ∀ i, i < t → Room wr (G i) (ls.getD i []) ∧ w.heap.size ≤ G i ∧ v4.ownBlock ≠ some (G i)
set_option maxRecDepth 20000 in
set_option maxHeartbeats 4000000 in
theorem wOctetJoins (v : Value) (ls : List (List Int)) (w : World) (hv : RdSS w v ls) (hl : ls.flatten.length ≤ 1048576) (hn : ls.length ≤ 1048576) :
    Calls Try.prog 6 #[v] w fun e w' => e = .returned (.bool true) ∧ Below w.heap.size w w' := by
  obtain ⟨A, c, rfl, hc, -, hA0, hA⟩ := hv
  have HA := Lib.hid hA
  clear hA hA0
  go_enter Try.func6, Try.ntmps6
  go_wp2_with fail
  go_loopw [3, 4, 5] (fun v3 v4 i wr => JnsRel w ls v3 v4 i wr) (fun _ _ i _ => ls.length - (intOf i).toNat)
  case atStart => exact ⟨0, Nat.zero_le _, rfl, Below.refl _ _, OwI.nil _ _ _ _, fun _ => 0, OwV.nil _ _ _, fun i h => absurd h (Nat.not_lt_zero _)⟩
  case round =>
    obtain ⟨t, ht, rfl, hb, ho, G, hz, hrow⟩ := hrel
    obtain ⟨F, hF⟩ : ∃ F, (ls.take t).flatten = F := ⟨_, rfl⟩
    rw [hF] at ho
    have HF := Lib.hid hF
    clear hF
    have HB := Lib.hid hb
    have HO := Lib.hid ho
    have HZ := Lib.hid hz
    have HROW := Lib.hid hrow
    have hsz : w.heap.size ≤ wr.heap.size := hb.size
    clear hb ho hz hrow
    by_cases hlt : t < ls.length
    · obtain ⟨ad, sv, rfl, c1, r1⟩ := HA.out t hlt
      have hb1 := flatten_take_le ls (t + 1)
      have hs := take_flatten_succ hlt
      obtain ⟨m, hm⟩ : ∃ m, ls.getD t [] = m := ⟨_, rfl⟩
      rw [hm] at r1 hs
      rw [HF.out] at hs
      rw [hs, List.length_append] at hb1
      have HM := Lib.hid hm
      have HS := Lib.hid hs
      have r1c := r1
      obtain ⟨A5, c5, rfl, hc5, h50, r5⟩ := r1
      have HR := Lib.hid r1c
      have c2 := keepc HB c1
      have hml : m.length ≤ 140737488354304 := by omega
      have hfl := Lib.hid (show F.length + m.length ≤ 1048576 by omega)
      have hc1 := Lib.hid c1
      clear hs hm r1c r5 h50 hb1 c1
      go_wp2_with fail
      refine use_roomy (HR.out.below HB.out) hml ?_
      intro g w1 hb1 hg1 rm1
      have hg1' := hg1.out
      have hs1 := hb1.out.size
      have c3 := keepc hb1 c2
      have hz1 := Lib.hid (HZ.out.below hb1.out)
      have B1 := Lib.hid (bl_tr HB.out hb1.out)
      have ho1 := Lib.hid (HO.out.below hb1.out)
      go_wp2_with (first | (at_builtin; refine ap_oneV w.heap.size rfl (.tmp 15) (.tmp 21) 44 36 (.slice none 0 0) 24 rfl Try.underlying44 info_sl8 rfl (by decide) u3 ((List.range t).map (rmv ls G)) (.slice (some ⟨g, 0, none⟩) m.length (m.length + 40)) rfl rfl rfl hz1.out (by omega) (by simp; omega) (t + 1) (by simp) ?_; intro A1 c1 w2 hO2 hg2 hat2; have B2 := Lib.hid (B1.out.grown hg2.out (by omega) (fun b hb => (hz1.out.blockGe b hb).1)); have c4 := keepc B2 hc1.out; have ho2 := Lib.hid (ho1.out.offV hz1.out (by decide) hg2.out); have hs2 := B2.out.size) | (at_builtin; refine ap_row w.heap.size rfl (.tmp 23) (.tmp 27) 36 5 .u8 1 rfl Try.underlying36 info_u8 (by decide) u4 F (.slice A5 m.length c5) m rfl rfl ho2.out (HR.out.below B2.out) hs2 (by have := hfl.out; omega) (F.length + m.length) rfl ?_; intro A3 c3 w3 hO3 hg3 hat3))
      go_roundw
      case measure => simp [intOf]; omega
      case rel =>
        refine ⟨t + 1, by omega, by go_num, B2.out.grown hg3.out hs2 (fun b hb => (ho2.out.blockGe b hb).1), by rw [HS.out]; exact hO3.out, fun i => if i = t then g else G i, ?_, fun i hi => ?_⟩
        · rw [rmv_succ, HM.out]
          exact hO2.out.kp (Kp.of_grown hg3.out) (fun x hx e => by
            obtain ⟨cs, hcs⟩ := ho2.out.heap e
            exact hO2.out.ne hcs (by decide) hx)
        · by_cases he : i = t
          · subst he
            simp only [if_true]
            have hlt2 := rm1.out.lt
            have h4 : u4.ownBlock ≠ some g := fun e => by have := (HO.out.blockGe g e).2; omega
            rw [HM.out]
            refine ⟨(rm1.out.offV hz1.out (by decide) hg2.out).kp (Kp.of_grown hg3.out) h4, by omega, fun e => ?_⟩
            rcases hat3.out with h | ⟨b, h, hb⟩
            · exact h4 (h ▸ e)
            · rw [h] at e; injection e with e; have := hg2.out.size; omega
          · simp only [if_neg he]
            obtain ⟨q1, q2, q3⟩ := HROW.out i (by omega)
            have hlt2 := q1.lt
            refine ⟨((q1.below hb1.out).offV hz1.out (by decide) hg2.out).kp (Kp.of_grown hg3.out) q3, q2, fun e => ?_⟩
            rcases hat3.out with h | ⟨b, h, hb⟩
            · exact q3 (h ▸ e)
            · rw [h] at e; injection e with e; have := hg2.out.size; omega
    · obtain rfl : t = ls.length := by omega
      have hF := HF.out
      rw [List.take_length] at hF
      subst hF
      have HS := Lib.hid (RdSS.rooms HZ.out (fun i hi => (HROW.out i hi).1) hl)
      obtain ⟨A4, c4, h4, -⟩ := HO.out.rd
      obtain ⟨A3, c3, h3, -, -, -, -, hc3⟩ := HZ.out.form
      rw [List.length_map, List.length_range] at h3 hc3
      obtain ⟨F, hF⟩ : ∃ F, ls.flatten = F := ⟨_, rfl⟩
      rw [hF] at h4 HO hl
      subst h3 h4
      have HF := Lib.hid hF
      have HC3 := Lib.hid hc3
      clear hF hc3
      go_wp2_with fail
      refine use_own (octJoin _ ls _ HS.out (by rw [HF.out]; omega)) ?_
      rw [HF.out]
      intro v5 w5 hb5 ho5
      obtain ⟨A5, c5, rfl⟩ := ho5.out.form
      have HS5 := Lib.hid (HS.out.below hb5.out)
      go_wp2_with fail
      refine use_own (octJoin _ ls _ HS5.out (by rw [HF.out]; omega)) ?_
      rw [HF.out]
      intro v6 w6 hb6 ho6
      obtain ⟨A6, c6, rfl⟩ := ho6.out.form
      have B6 := Lib.hid (bl_tr hb5.out hb6.out)
      have ho56 := Lib.hid (ho5.out.below hb6.out)
      go_wp2_with fail
      refine use_b (awake01 _) ?_
      intro w7 hb7
      have B7 := Lib.hid (bl_tr B6.out hb7.out)
      have ho57 := Lib.hid (ho56.out.below hb7.out)
      have ho67 := Lib.hid (ho6.out.below hb7.out)
      go_wp2_with fail
      refine use_b (same_any _ _ F F _ ho57.out.rd (HO.out.below B7.out).rd) ?_
      rw [decide_eq_true (rfl : F = F)]
      intro w8 hb8
      have B8 := Lib.hid (bl_tr B7.out hb8.out)
      have ho58 := Lib.hid (ho57.out.below hb8.out)
      have ho68 := Lib.hid (ho67.out.below hb8.out)
      go_wp2_with fail
      refine use_b (same_any _ _ F F _ ho68.out.rd (HO.out.below B8.out).rd) ?_
      rw [decide_eq_true (rfl : F = F)]
      intro w9 hb9
      have B9 := Lib.hid (bl_tr B8.out hb9.out)
      have ho59 := Lib.hid (ho58.out.below hb9.out)
      have ho69 := Lib.hid (ho68.out.below hb9.out)
      have hs5 := B9.out.size
      have hs6 := hb5.out.size
      have hne5 : Hid (∀ g, (Value.slice A5 F.length c5).ownBlock = some g → (Value.slice A6 F.length c6).ownBlock ≠ some g) := fun g h h' => by
        have := (ho5.out.blockGe g h).2
        have := (ho6.out.blockGe g h').1
        omega
      clear hb5 hb6 hb7 hb8 hb9 ho5 ho6 ho56 ho57 ho67 ho58 ho68 HS HS5 B6 B7 B8
      go_wp2_with fail
      obtain ⟨wo, hwo⟩ : ∃ x, x = wr := ⟨_, rfl⟩
      subst hwo
      have BB := Lib.hid (bl_tr HB.out B9.out)
      go_loopw [8] (fun i wr => HldRel w w9 ls.length i wr) (fun i _ => ls.length - (intOf i).toNat)
      case atStart => exact ⟨0, Nat.zero_le _, rfl, Below.refl _ _⟩
      case round =>
        obtain ⟨u, hu, rfl, hbr⟩ := hrel
        have BR := Lib.hid hbr
        have BT := Lib.hid (bl_tr B9.out hbr)
        have BW := Lib.hid (bl_tr BB.out hbr)
        clear hbr
        by_cases hlu : u < ls.length
        · obtain ⟨ad, sv, rfl, c1, r1⟩ := HA.out u hlu
          obtain ⟨g3, rfl, k3⟩ := HC3.out u hlu
          rw [List.getElem?_map, List.getElem?_range hlu, Option.map_some] at k3
          obtain ⟨m, hm⟩ : ∃ m, ls.getD u [] = m := ⟨_, rfl⟩
          obtain ⟨q1, -, -⟩ := HROW.out u hlu
          have hfl := flat_get ls u hlu
          simp only [rmv] at k3
          rw [hm] at r1 k3 q1 hfl
          have hml : m.length ≤ 140737488354304 := by rw [HF.out] at hfl; omega
          have RM := Lib.hid q1
          have HR := Lib.hid r1
          obtain ⟨g, hg⟩ : ∃ g, G u = g := ⟨_, rfl⟩
          rw [hg] at k3 RM
          obtain ⟨Ap, cp, rfl, -⟩ := r1
          have c2 := keepc BW c1
          have k4 := keepc BT k3
          clear hm q1 hfl hg c1 k3
          go_wp2_with fail
          go_region_held3 (fun w' => w'.cell? (ad.add u) = some (.slice Ap m.length cp) ∧ w'.cell? ⟨g3, u, none⟩ = some (.slice (some ⟨g, 0, none⟩) m.length (m.length + 40))) (first | go_keep | (go_split_ands; exact ⟨keepc hbz (by assumption), keepc hbz (by assumption)⟩)) (first | (go_at_call 30; refine use_b (held_any g m _ _ (RM.out.below (bl_tr BT.out (by repeat (first | exact Below.refl _ _ | apply bl_alloc | apply bl_drew | apply bl_drewN | (refine bl_tr' (by assumption) ?_))))) (HR.out.below (bl_tr BW.out (by repeat (first | exact Below.refl _ _ | apply bl_alloc | apply bl_drew | apply bl_drewN | (refine bl_tr' (by assumption) ?_))))) hml) ?_; intro wz hbz))
          go_wp2
          go_roundw
          case measure => simp [intOf]; omega
          case rel => exact ⟨u + 1, by omega, by go_num, bl_tr BR.out (by repeat (first | exact Below.refl _ _ | apply bl_alloc | apply bl_drew | apply bl_drewN | (refine bl_tr' (by assumption) ?_)))⟩
        · obtain rfl : u = ls.length := by omega
          go_wp2_with fail
          have oa := Lib.hid (ho59.out.below BR.out)
          have ob := Lib.hid (ho69.out.below BR.out)
          have hSw : Hid (∀ g, ((Value.slice A5 F.length c5).ownBlock = some g ∨ (Value.slice A6 F.length c6).ownBlock = some g) → wo.heap.size ≤ g) := fun g h => by
            rcases h with h | h
            · exact (oa.out.blockGe g h).1
            · have := (ob.out.blockGe g h).1; omega
          have hne : Hid (∀ g, (Value.slice A5 F.length c5).ownBlock = some g → (Value.slice A6 F.length c6).ownBlock ≠ some g) := hne5.out
          have hF1 : F.length ≤ 140737488354304 := by omega
          have HX : Hid (∀ {X : World} {p : Nat}, Below wr.heap.size wr X → wr.heap.size ≤ p → X.heap[p]? = some (.cells #[.slice A5 F.length c5, .slice A6 F.length c6] 36 (0, 0)) → Calls Try.prog 31 #[.slice (some ⟨p, 0, none⟩) 2 2] X fun e w' => e = .returned (.bool true) ∧ Kp (fun g => (Value.slice A5 F.length c5).ownBlock = some g ∨ (Value.slice A6 F.length c6).ownBlock = some g) X w') := fun {X p} h1 h2 h3 =>
            apart_two (oa.out.lower (Nat.zero_le _)) (ob.out.lower (Nat.zero_le _)) hF1 hF1 hne.out h1 h2 h3
          obtain ⟨n, hn⟩ : ∃ n, ls.length = n := ⟨_, rfl⟩
          rw [hn]
          have HNN := Lib.hid hn
          have hnm : n ≤ 1048576 := by omega
          clear hn hc hu
          by_cases h0 : n = 0
          · subst h0
            first | go_region_with (go_at_call 31; refine use_kp (HX.out (by repeat (first | exact Below.refl _ _ | apply bl_alloc | apply bl_drew | apply bl_drewN | (refine bl_tr' (by assumption) ?_))) (Nat.le_refl _) (blk_new _ _)) ?_; intro wz hbz) | fail
            all_goals (have HK := Lib.hid ((Kp.of_below (by repeat (first | exact Below.refl _ _ | apply bl_alloc | apply bl_drew | apply bl_drewN | (refine bl_tr' (by assumption) ?_)))).trans hbz.out : Kp (fun g => (Value.slice A5 F.length c5).ownBlock = some g ∨ (Value.slice A6 F.length c6).ownBlock = some g) wr wz))
            all_goals go_wp2
            all_goals go_ret
            all_goals exact ⟨rfl, bl_kp BW.out HK.out (fun g hg => Nat.le_trans hsz (hSw.out g hg))⟩
          · have hl0 : 0 < ls.length := by rw [HNN.out]; omega
            obtain ⟨ad, sv, rfl, c1, r1⟩ := HA.out 0 hl0
            obtain ⟨g3, rfl, k3⟩ := HC3.out 0 hl0
            rw [List.getElem?_map, List.getElem?_range hl0, Option.map_some] at k3
            obtain ⟨m, hm⟩ : ∃ m, ls.getD 0 [] = m := ⟨_, rfl⟩
            obtain ⟨q1, -, -⟩ := HROW.out 0 hl0
            have hfl := flat_get ls 0 hl0
            simp only [rmv] at k3
            rw [hm] at r1 k3 q1 hfl
            have hml : m.length ≤ 140737488354304 := by rw [HF.out] at hfl; omega
            rw [show ad.add 0 = ad by unfold Addr.add; simp] at c1
            obtain ⟨g, hg⟩ : ∃ g, G 0 = g := ⟨_, rfl⟩
            rw [hg] at k3 q1
            have RM := Lib.hid q1
            have HR := Lib.hid r1
            have hglt := q1.lt
            have hg3 := World.block_lt_of_cell? wo _ k3
            have had := World.block_lt_of_cell? w _ c1
            simp only at hg3
            obtain ⟨Ap, cp, rfl, -⟩ := r1
            have c2 := keepc BW c1
            have k4 := keepc BT k3
            have hwo := BT.out.size
            have e0 : ((n : Int) == 0) = false := by rw [beq_eq_false_iff_ne]; omega
            have e2 : (0 : Int) < (n : Int) := by omega
            have e3 : 0 < n := by omega
            have SS : Hid (∀ W', Kp (fun g => (Value.slice A5 F.length c5).ownBlock = some g ∨ (Value.slice A6 F.length c6).ownBlock = some g) wr W' → (Kp (fun g => (Value.slice A5 F.length c5).ownBlock = some g ∨ (Value.slice A6 F.length c6).ownBlock = some g) wr W' ∧ W'.cell? ad = some (.slice Ap m.length cp) ∧ W'.cell? ⟨g3, 0, none⟩ = some (.slice (some ⟨g, 0, none⟩) m.length (m.length + 40)))) := fun W' hk =>
              ⟨hk, hk.cell (fun h => by have := hSw.out _ h; omega) c2, hk.cell (fun h => by have := hSw.out _ h; simp only at this; omega) k4⟩
            have HH : Hid (∀ W', Kp (fun g => (Value.slice A5 F.length c5).ownBlock = some g ∨ (Value.slice A6 F.length c6).ownBlock = some g) wr W' → Calls Try.prog 30 #[.slice (some ⟨g, 0, none⟩) m.length (m.length + 40), .slice Ap m.length cp] W' fun e w' => e = .returned (.bool true) ∧ Below W'.heap.size W' w') := fun W' hk =>
              held_any g m _ W' ((RM.out.below BT.out).kp hk (fun h => by have := hSw.out _ h; omega)) (HR.out.below (bl_kp BW.out hk (fun g hg => Nat.le_trans hsz (hSw.out g hg)))) hml
            clear hm hfl hg c1 k3 q1 hglt hg3 had
            first | go_region_held3 (fun W' => Kp (fun g => (Value.slice A5 F.length c5).ownBlock = some g ∨ (Value.slice A6 F.length c6).ownBlock = some g) wr W' ∧ W'.cell? ad = some (.slice Ap m.length cp) ∧ W'.cell? ⟨g3, 0, none⟩ = some (.slice (some ⟨g, 0, none⟩) m.length (m.length + 40))) (first | exact SS.out _ (Kp.refl _ _) | exact SS.out _ (((Kp.of_below (by repeat (first | exact Below.refl _ _ | apply bl_alloc | apply bl_drew | apply bl_drewN | (refine bl_tr' (by assumption) ?_)))).trans hbz.out).trans (Kp.of_below hby.out)) | exact SS.out _ ((Kp.of_below (by repeat (first | exact Below.refl _ _ | apply bl_alloc | apply bl_drew | apply bl_drewN | (refine bl_tr' (by assumption) ?_)))).trans hbz.out) | exact SS.out _ (Kp.of_below (by repeat (first | exact Below.refl _ _ | apply bl_alloc | apply bl_drew | apply bl_drewN | (refine bl_tr' (by assumption) ?_))))) (first | (go_at_call 31; refine use_kp (HX.out (by repeat (first | exact Below.refl _ _ | apply bl_alloc | apply bl_drew | apply bl_drewN | (refine bl_tr' (by assumption) ?_))) (Nat.le_refl _) (blk_new _ _)) ?_; intro wz hbz) | (go_at_call 30; refine use_b (HH.out _ ((Kp.of_below (by repeat (first | exact Below.refl _ _ | apply bl_alloc | apply bl_drew | apply bl_drewN | (refine bl_tr' (by assumption) ?_)))).trans hbz.out)) ?_; intro wy hby)) | fail
            all_goals (have HK := Lib.hid (show Kp (fun g => (Value.slice A5 F.length c5).ownBlock = some g ∨ (Value.slice A6 F.length c6).ownBlock = some g) wr wy from (show _ ∧ _ by assumption).1))
            all_goals go_wp2
            all_goals go_ret
            all_goals exact ⟨rfl, bl_kp BW.out HK.out (fun g hg => Nat.le_trans hsz (hSw.out g hg))⟩
end Go.Proofs.Ytehcimecmbcdfaa
