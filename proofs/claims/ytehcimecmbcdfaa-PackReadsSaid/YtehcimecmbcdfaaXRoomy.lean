/- Contracts: lists with room behind them (ref01.Roomy, Held), and a reader whose row lies apart. -/
import Derived.Test.YtehcimecmbcdfaaXLaw01
set_option linter.unusedSimpArgs false
set_option linter.unusedVariables false
namespace Go.Proofs.Ytehcimecmbcdfaa
open Go.RowKit

/-- append(s, ys...) where the room suffices -/
theorem fit_row {P : Program} {ops : Array Oper} {rest : List Oper} {o : Oper} {a : Act} {Q : Exit → Act → World → Prop} {W : World} (base : Nat) (hgd : o.guard = none) (s x : Operand) (t e : TypeId) (k : IntKind) (bytes : Nat)
    (ho : o.op = .call { callee := .builtin .append, args := #[s, x], argTypes := #[t, t] })
    (ht : P.underlying t = some (.slice e)) (hinfo : (P.info? e).map (fun i => (i.zero, i.size, i.bytes)) = some (some (.int k 0), 1, bytes))
    (g n cap : Nat) (l : List Int) (vx : Value) (ys : List Int) (hs : a.eval s = .slice (some ⟨g, 0, none⟩) n cap) (hx : a.eval x = vx)
    (HO : OwI W base e k (.slice (some ⟨g, 0, none⟩) n cap) l) (HR : RdS W k vx ys) (hn : l.length = n) (hcap : n + ys.length ≤ cap)
    (N : Nat) (hN : n + ys.length = N) (h : ∀ w1, Hid (OwI w1 base e k (.slice (some ⟨g, 0, none⟩) N cap) (l ++ ys)) → Hid (W.grownBy w1 (some g)) → wpList P ops Q rest (a.put o.dst (.slice (some ⟨g, 0, none⟩) N cap)) w1) :
    wpList P ops Q (o :: rest) a W := by
  obtain ⟨i0, hi, hz0, hz1, hz2⟩ := info_parts hinfo
  subst hn hN
  obtain ⟨B, c, rfl, hc1, hc2, HR⟩ := HR
  refine wpList_append_fits_any W hgd s x t ho base e i0 1 ht hi hz1 g l.length cap (l.map (Value.int k)) hs HO B ys.length c (ys.map (Value.int k)) hx (by simp) (fun hB => ⟨?_, hc2 hB⟩) ?_ (by intro u hu; simp at hu; obtain ⟨y, _, rfl⟩ := hu; rfl) hcap ?_
  · have := hc2 hB; omega
  · intro ad had j u hu
    have hj : j < ys.length := by
      have := (List.getElem?_eq_some_iff.1 hu).1
      simpa using this
    obtain ⟨ad', e', hc⟩ := HR.at_ j hj
    obtain rfl := Option.some.inj (had.symm.trans e')
    rw [hc]
    simp [List.getElem?_eq_getElem hj] at hu
    rw [← hu]
    simp [List.getElem?_eq_getElem hj, List.getD_eq_getElem?_getD]
  · intro w1 h1 h2
    refine h w1 ?_ h2
    unfold Hid OwI
    rw [List.length_append, List.map_append]
    exact h1
theorem OwI.made {W : World} {base : Nat} {E : TypeId} {k : IntKind} {cs : Array Value} {c : Nat} (hb : base ≤ W.heap.size) (hs : cs.size = c) (hc : c ≤ 9223372036854775807) :
    OwI (W.alloc (.cells cs E)) base E k (.slice (some ⟨W.heap.size, 0, none⟩) 0 c) [] :=
  ⟨by simp, .inr ⟨W.heap.size, c, cs, rfl, hb, heap_alloc_new W _, Nat.zero_le _, by simp only [maxLen]; omega, by omega, by simp⟩⟩
/-- make([]T, 0, c) -/
theorem made_run {P : Program} {t e : TypeId} {k : IntKind} {bytes : Nat} (ht : P.underlying t = some (.slice e)) (hinfo : (P.info? e).map (fun i => (i.zero, i.size, i.bytes)) = some (some (.int k 0), 1, bytes)) (c : Nat) (hc : bytes * c ≤ 281474976710656) (h63 : c ≤ 9223372036854775807) :
    ∃ cs : Array Value, cs.size = c ∧ ∀ W : World, (Instr.makeSlice t (.int .i64 0) (.int .i64 (c : Int))).run P W = .ok (.slice (some ⟨W.heap.size, 0, none⟩) 0 c) (W.alloc (.cells cs e)) := by
  obtain ⟨i0, hi, hz0, hz1, hz2⟩ := info_parts hinfo
  refine ⟨madeCells (Value.int k 0).cells (c * i0.size), ?_, fun W => ?_⟩
  · rw [hz1]; simp [madeCells, Value.cells]
  · rw [run_make W t e i0 _ ht hi hz0 .i64 .i64 0 c (Int.le_refl _) (by omega) (by rw [hz2]; omega) (by omega)]
    simp

/-- 's[:hi]' of a row with room -/
theorem cut_room {P : Program} {t e : TypeId} {k : IntKind} {bytes : Nat} (ht : P.underlying t = some (.slice e)) (hinfo : (P.info? e).map (fun i => (i.zero, i.size, i.bytes)) = some (some (.int k 0), 1, bytes)) (g n cap hi : Nat) (hcap : 0 < cap) (hh : hi ≤ cap) :
    ∀ W : World, (Instr.slice t (.slice (some ⟨g, 0, none⟩) n cap) none (some (.int .i64 (hi : Int))) none).run P W = .ok (.slice (some ⟨g, 0, none⟩) hi cap) W := by
  obtain ⟨i0, hi0, hz0, hz1, hz2⟩ := info_parts hinfo
  intro W
  have hel : P.elem t = e := by simp [Program.elem, ht]
  have hu : P.underlying t = some (.slice (P.elem t)) := by rw [hel]; exact ht
  rw [run_slice_h W t _ n cap hu .i64 (hi : Int) (Int.natCast_nonneg _) (by omega), hel]
  simp [sizeOf, typeInfo, hi0, hz1, sliced, Result.andThen, add0]
def mark (n : Nat) : List Int := (List.range n).map fun i : Nat => ((100 + i : Nat) : Int)
theorem mark_len (n : Nat) : (mark n).length = n := by simp [mark]
theorem mark_succ (n : Nat) : mark (n + 1) = mark n ++ [((100 + n : Nat) : Int)] := by simp [mark, List.range_succ]
theorem mark_at {n i : Nat} (h : i < n) : (mark n).getD i 0 = 100 + (i : Int) := by simp [mark, List.getD_eq_getElem?_getD, h]
/-- the list l in block g, with marks behind it -/
def Room (w : World) (g : Nat) (l : List Int) : Prop := w.heap[g]? = some (.cells ((l ++ mark 40).map (Value.int .u8)).toArray 5 (0, 0))
theorem Room.below {w w1 : World} {g : Nat} {l : List Int} (h : Room w g l) (hb : Below w.heap.size w w1) : Room w1 g l := blk_below h hb
theorem Room.kp {S : Nat → Prop} {w w1 : World} {g : Nat} {l : List Int} (h : Room w g l) (hk : Kp S w w1) (hs : ¬ S g) : Room w1 g l := hk.blk hs h
theorem Room.cell {w : World} {g : Nat} {l : List Int} (h : Room w g l) (i : Nat) (hi : i < l.length + 40) : w.cell? ⟨g, i, none⟩ = some (.int .u8 ((l ++ mark 40).getD i 0)) := by
  rw [blk_cell h i]
  have : i < (l ++ mark 40).length := by rw [List.length_append, mark_len]; exact hi
  show ((l ++ mark 40).map (Value.int .u8)).toArray[i]? = _
  rw [List.getElem?_toArray, List.getElem?_map, List.getElem?_eq_getElem this, List.getD_eq_getElem?_getD, List.getElem?_eq_getElem this]; rfl
theorem Room.rd {w : World} {g : Nat} {l : List Int} (h : Room w g l) (hl : l.length ≤ 140737488355328) : RdS w .u8 (.slice (some ⟨g, 0, none⟩) l.length (l.length + 40)) l := by
  refine ⟨_, _, rfl, by omega, (fun h => by cases h), by omega, fun _ => ⟨_, rfl, fun j hj => ?_⟩⟩
  rw [add0, h.cell j (by omega)]
  simp [List.getD_eq_getElem?_getD, List.getElem?_append_left hj]
def RoomPost (w : World) (l : List Int) (e : Ending) (w' : World) : Prop :=
  ∃ g, e = .returned (.slice (some ⟨g, 0, none⟩) l.length (l.length + 40)) ∧ w.heap.size ≤ g ∧ Room w' g l ∧ Below w.heap.size w w'
theorem OwI.room {w : World} {base g : Nat} {l : List Int} (h : OwI w base 5 .u8 (.slice (some ⟨g, 0, none⟩) (l.length + 40) (l.length + 40)) (l ++ mark 40)) : Room w g l ∧ base ≤ g := by
  rcases h.2 with ⟨h, _⟩ | ⟨g', cap, cur, h1, h2, h3, h4, h5, h6, h7⟩
  · cases h
  · injection h1 with e1 _ e3
    injection e1 with e1
    injection e1 with e1 _
    subst e1 e3
    refine ⟨?_, h2⟩
    unfold Room
    rw [h3]
    have e : cur.toList = (l ++ mark 40).map (Value.int .u8) := by
      rw [← h7, List.take_of_length_le]
      simp [mark_len] at h6 ⊢
      omega
    rw [← e]
def RoomRel (w : World) (g : Nat) (l : List Int) (v3 i : Value) (wr : World) : Prop :=
  ∃ k : Nat, k ≤ 40 ∧ i = .int .i64 k ∧ v3 = .slice (some ⟨g, 0, none⟩) (l.length + k) (l.length + 40) ∧ OwI wr w.heap.size 5 .u8 v3 (l ++ mark k) ∧ Below w.heap.size w wr
set_option maxHeartbeats 1000000 in
theorem roomy_any (v : Value) (l : List Int) (w : World) (hr : RdS w .u8 v l) (hl : l.length ≤ 140737488354304) :
    Calls Try.prog 28 #[v] w (RoomPost w l) := by
  obtain ⟨A, c, rfl, hc, hA0, hA⟩ := hr
  have HR : Hid (RdS w .u8 (.slice A l.length c) l) := ⟨A, c, rfl, hc, hA0, hA⟩
  obtain ⟨cs, hcs, hmk⟩ := made_run (k := .u8) (bytes := 1) Try.underlying36 info_u8 (l.length + 40) (by omega) (by omega)
  simp only [Int.natCast_add, Int.cast_ofNat_Int] at hmk
  clear hA hA0
  go_enter Try.func28, Try.ntmps28
  go_wp2_with (at_builtin; refine fit_row w.heap.size rfl (.tmp 9) (.tmp 10) 36 5 .u8 1 rfl Try.underlying36 info_u8 w.heap.size 0 (l.length + 40) [] (.slice A l.length c) l rfl rfl (OwI.made (Nat.le_refl _) hcs (by omega)) (HR.out.below (bl1 _)) rfl (by omega) _ rfl ?_; intro w1 hO1 hg1)
  have HB1 := Lib.hid ((bl1 (.cells cs 5)).grown hg1.out (by simp) (fun k hk => by simp [Value.ownBlock] at hk; omega))
  clear hg1
  go_loopw [3, 4] (fun v3 i wr => RoomRel w w.heap.size l v3 i wr) (fun _ i _ => 40 - (intOf i).toNat)
  case atStart => exact ⟨0, by omega, rfl, rfl, by simpa [mark] using hO1.out, HB1.out⟩
  case round =>
    obtain ⟨k, hk, rfl, rfl, ho, hb⟩ := hrel
    have HO := Lib.hid ho
    have HB := Lib.hid hb
    have hgs : w.heap.size ≤ wr.heap.size := hb.size
    clear ho hb hO1 HB1
    by_cases h0 : k < 40
    · have hm := Lib.hid (mark_succ k)
      have e1 : ((100 : Int) + (k : Int)) % 256 = 100 + (k : Int) := by omega
      go_wp2_with (at_builtin; refine fit_row w.heap.size rfl (.tmp 16) (.tmp 20) 36 5 .u8 1 rfl Try.underlying36 info_u8 w.heap.size (l.length + k) (l.length + 40) (l ++ mark k) (.slice (some ⟨wr.heap.size, 0, none⟩) 1 1) [100 + (k : Int)] rfl rfl (HO.out.below (bl1 _)) (OwI.rd (base := 0) (OwI.lit [100 + (k : Int)] (Nat.zero_le _) (by simp))) (by simp [mark_len]) (by simp; omega) _ rfl ?_; intro w2 hO2 hg2)
      go_roundw
      case measure => simp [intOf]; omega
      case rel =>
        refine ⟨k + 1, by omega, by go_num, by first | rfl | (simp; omega), ?_, ?_⟩
        · rw [hm.out, ← List.append_assoc]
          exact hO2.out
        · exact (bl_alloc HB.out _).grown hg2.out (by simp; omega) (fun b hb => by simp at hb; omega)
    · have hk : k = 40 := by omega
      subst hk
      have hcut := cut_room (k := .u8) (bytes := 1) Try.underlying36 info_u8 w.heap.size (l.length + 40) (l.length + 40) l.length (by omega) (by omega)
      go_wp2
      go_ret
      obtain ⟨h1, h2⟩ := OwI.room HO.out
      exact ⟨_, rfl, h2, h1, HB.out⟩
/-- Held: what Roomy made is as it was -/
def HeldRel (w : World) (i : Value) (wr : World) : Prop := ∃ k : Nat, k ≤ 40 ∧ i = .int .i64 k ∧ Below w.heap.size w wr
set_option maxHeartbeats 1000000 in
theorem held_any (g : Nat) (l : List Int) (v : Value) (w : World) (hg : Room w g l) (hr : RdS w .u8 v l) (hl : l.length ≤ 140737488354304) :
    Calls Try.prog 30 #[.slice (some ⟨g, 0, none⟩) l.length (l.length + 40), v] w fun e w' => e = .returned (.bool true) ∧ Below w.heap.size w w' := by
  have HR := Lib.hid hr
  have HG := Lib.hid hg
  obtain ⟨A, c, rfl, hc, hA0, hA⟩ := hr
  clear hA hA0 hg
  have hcut := cut_room (k := .u8) (bytes := 1) Try.underlying36 info_u8 g l.length (l.length + 40) (l.length + 40) (by omega) (by omega)
  simp only [Int.natCast_add, Int.cast_ofNat_Int] at hcut
  go_enter Try.func30, Try.ntmps30
  go_wp2_with fail
  refine use_b (same_any _ _ l l _ (HG.out.rd (by omega)) HR.out) ?_
  intro w1 hb1
  have HG1 := Lib.hid (HG.out.below hb1.out)
  clear HG HR
  rw [show decide (l = l) = true by simp]
  go_wp2_with fail
  go_loopw [6] (fun i wr => HeldRel w1 i wr) (fun i _ => 40 - (intOf i).toNat)
  case atStart => exact ⟨0, by omega, rfl, Below.refl _ _⟩
  case round =>
    obtain ⟨k, hk, rfl, hb⟩ := hrel
    have HB := Lib.hid hb
    clear hb
    by_cases h0 : k < 40
    · have hc1 := (HG1.out.below HB.out).cell (l.length + k) (by omega)
      have hm : (l ++ mark 40).getD (l.length + k) 0 = 100 + (k : Int) := by
        rw [← mark_at h0, List.getD_eq_getElem?_getD, List.getD_eq_getElem?_getD, List.getElem?_append_right (by omega), Nat.add_sub_cancel_left]
      rw [hm] at hc1
      clear hm
      have e1 : ((100 : Int) + (k : Int)) % 256 = 100 + (k : Int) := by omega
      go_wp2_with fail
      go_roundw
      case measure => simp [intOf]; omega
      case rel => exact ⟨k + 1, by omega, by go_num, HB.out⟩
    · go_wp2
      go_ret
      exact ⟨rfl, bl_tr hb1.out HB.out⟩
end Go.Proofs.Ytehcimecmbcdfaa
