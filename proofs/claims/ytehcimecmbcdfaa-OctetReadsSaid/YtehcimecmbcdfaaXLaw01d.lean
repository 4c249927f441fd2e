/- The walk of the law OctetReads. -/
import Derived.Test.YtehcimecmbcdfaaXReads
set_option linter.unusedSimpArgs false
set_option linter.unusedVariables false
namespace Go.Proofs.Ytehcimecmbcdfaa
open Go.RowKit

theorem reads_any (b : Nat) (l : List Int) (pos : Nat) (v : Value) (K M : Int) (w0 w : World) (h : Rdr w b l pos) (hby : Byt l) (hv : RdS w0 .u8 v (l.drop pos)) (HBL : Below w0.heap.size w0 w) (hb0 : w0.heap.size ≤ b) (hM : I64 M) :
    Calls Try.prog 37 #[.pointer (some ⟨b, 0, none⟩), v, .agg #[.int .i64 K, .int .i64 M]] w (ReadsPost w0 w b l) := by
  by_cases h1 : K = 1 ∨ K = 2
  · exact reads_num b l pos v K M w0 w h hby hv HBL hb0 h1
  by_cases h3 : K = 3
  · exact reads_byte b l pos v K M w0 w h hby hv HBL hb0 h3
  by_cases h4 : K = 4
  · exact reads_bytes b l pos v K M w0 w h hby hv HBL hb0 h4 hM
  by_cases h5 : K = 5
  · exact reads_left b l pos v K M w0 w h hby hv HBL hb0 h5
  by_cases h6 : K = 6
  · exact reads_done b l pos v K M w0 w h hby hv HBL hb0 h6
  exact reads_other b l pos v K M w0 w h hby hv HBL hb0 ⟨by omega, by omega, h3, h4, h5, h6⟩
def NewPost2 (w : World) (l : List Int) (e : Ending) (w' : World) : Prop :=
  ∃ b, e = .returned (.pointer (some ⟨b, 0, none⟩)) ∧ w.heap.size ≤ b ∧ Rdr w' b l 0 ∧ (∀ (S : Nat → Prop) w'', Kp S w' w'' → (∀ k, S k → k < w.heap.size) → Rdr w'' b l 0) ∧ Below w.heap.size w w'
set_option maxHeartbeats 400000 in
theorem octNew2 (v : Value) (l : List Int) (w : World) (hr : RdS w .u8 v l) (hl : l.length ≤ 140737488355328) :
    Calls Try.prog 32 #[v] w (NewPost2 w l) := by
  have HR := Lib.hid hr
  clear hr
  go_enter Try.func32, Try.ntmps32
  go_wp2_with (at_builtin; refine ap_row w.heap.size rfl (.tmp 3) (.tmp 4) 36 5 .u8 1 rfl Try.underlying36 info_u8 (by decide) (.slice (some ⟨w.heap.size, 0, none⟩) 0 0) [] v l rfl rfl (OwI.lit (k := .u8) (E := 5) [] (Nat.le_refl _) (by simp)) (HR.out.below (bl1 _)) (by simp) (by simp; omega) l.length (by simp) ?_; intro A1 c1 w1 hO1 hg1 hat1)
  go_ret
  have hb1 : Below w.heap.size w w1 := (bl1 _).grown hg1.out (by simp) (fun k hk => by simp [Value.ownBlock] at hk; omega)
  have ho := hO1.out.below (bl1 (.cells #[.slice A1 l.length c1, .int .i64 0] 87))
  refine ⟨w1.heap.size, rfl, hb1.size, ⟨_, w.heap.size, blk_new _ _, ho, Nat.zero_le _, hl⟩, fun S w'' hk hS => ⟨_, w.heap.size, hk.blk (fun e => ?_) (blk_new _ _), ho.kp hk (fun g hg e => ?_), Nat.zero_le _, hl⟩, bl_alloc hb1 _⟩
  · have := hS _ e
    have := hb1.size
    omega
  · have := hS _ e
    have := (ho.blockGe g hg).1
    omega
theorem use_new2 {v : Value} {l : List Int} {w : World} {R : Ending → World → Prop} (h : RdS w .u8 v l) (hl : l.length ≤ 140737488355328)
    (k : ∀ b w1, Hid (Below w.heap.size w w1) → Hid (w.heap.size ≤ b) → Hid (Rdr w1 b l 0) → Hid (∀ (S : Nat → Prop) w'', Kp S w1 w'' → (∀ k, S k → k < w.heap.size) → Rdr w'' b l 0) → R (.returned (.pointer (some ⟨b, 0, none⟩))) w1) : Calls Try.prog 32 #[v] w R :=
  (octNew2 v l w h hl).mono fun e w1 ⟨b, he, h1, h2, h4, h3⟩ => by
    subst he
    exact k b w1 h3 h1 h2 h4
theorem use_roomy {v : Value} {l : List Int} {w : World} {R : Ending → World → Prop} (h : RdS w .u8 v l) (hl : l.length ≤ 140737488354304)
    (k : ∀ g w1, Hid (Below w.heap.size w w1) → Hid (w.heap.size ≤ g) → Hid (Room w1 g l) → R (.returned (.slice (some ⟨g, 0, none⟩) l.length (l.length + 40))) w1) : Calls Try.prog 28 #[v] w R :=
  (roomy_any v l w h hl).mono fun e w1 ⟨g, he, h1, h2, h3⟩ => by
    subst he
    exact k g w1 h3 h1 h2
theorem use_reads {P : Program} {f : FuncId} {args : Array Value} {w0 w : World} {b : Nat} {l : List Int} {R : Ending → World → Prop} (h : Calls P f args w (ReadsPost w0 w b l))
    (k : ∀ pos v w1, Hid (RdS w0 .u8 v (l.drop pos)) → Hid (Rdr w1 b l pos) → Hid (Kp (· = b) w w1) → R (.returned (.tuple #[v, .bool true])) w1) : Calls P f args w R :=
  h.mono fun e w1 ⟨pos, v, he, h1, h2, h3⟩ => by
    subst he
    exact k pos v w1 h1 h2 h3
theorem add1 (p : Addr) : p.add 1 = ⟨p.block, p.off + 1, none⟩ := by unfold Addr.add; simp
/-- the steps of a script -/
def RdSt (w : World) (A : Option Addr) (st : List (Int × Int)) : Prop :=
  st.length ≤ 9223372036854775807 ∧ (0 < st.length → ∃ ad, A = some ad ∧ ∀ j, j < st.length → w.cell? (ad.add (j * 2)) = some (.int .i64 (st.getD j (0, 0)).1) ∧ w.cell? ((ad.add (j * 2)).add 1) = some (.int .i64 (st.getD j (0, 0)).2))
def XorRel (g n : Nat) (i : Value) (w1 wr : World) : Prop :=
  ∃ (k : Nat) (l' : List Int), k ≤ n ∧ i = .int .i64 k ∧ wr.heap[g]? = some (.cells (l'.map (Value.int .u8)).toArray 5 (0, 0)) ∧ n ≤ l'.length ∧ Kp (· = g) w1 wr
def ReadsRel (w : World) (l : List Int) (b q n : Nat) (x y i : Value) (wr : World) : Prop :=
  ∃ (k px py : Nat), k ≤ n ∧ i = .int .i64 k ∧ RdS w .u8 x (l.drop px) ∧ RdS w .u8 y (l.drop py) ∧ Rdr wr b l px ∧ Rdr wr q l py ∧ Below w.heap.size w wr
set_option maxRecDepth 20000 in
set_option maxHeartbeats 4000000 in
theorem wOctetReads (v : Value) (l : List Int) (B : Option Addr) (c2 : Nat) (st : List (Int × Int)) (w : World) (hv : RdS w .u8 v l) (hby : Byt l) (hl : l.length ≤ 140737488354304) (hs : RdSt w B st) (hI : ∀ p ∈ st, I64 p.2) :
    Calls Try.prog 9 #[v, .slice B st.length c2] w fun e w' => e = .returned (.bool true) ∧ Below w.heap.size w w' := by
  have HR := Lib.hid hv
  have HBY := Lib.hid hby
  have HS := Lib.hid hs
  have HI := Lib.hid hI
  obtain ⟨n, hn⟩ : ∃ n, l.length = n := ⟨_, rfl⟩
  rw [hn] at hl
  have HL := Lib.hid hn
  obtain ⟨A, c, rfl, hc, hA0, hA⟩ := hv
  rw [hn] at HR ⊢
  clear hby hs hI hc hA0 hA hn
  go_enter Try.func9, Try.ntmps9
  go_wp2_with fail
  refine use_roomy HR.out (by rw [HL.out]; exact hl) ?_
  rw [HL.out]
  intro g w1 hb1 hg1 rm1
  go_wp2_with fail
  refine use_new2 (l := l) (by have := rm1.out.rd (by rw [HL.out]; omega); rwa [HL.out] at this) (by rw [HL.out]; omega) ?_
  intro b w2 hb2 hg2 rb2 sb2
  have B2 := Lib.hid (bl_tr hb1.out hb2.out)
  go_wp2_with fail
  refine use_new2 (l := l) (HR.out.below B2.out) (by rw [HL.out]; omega) ?_
  intro q w3 hb3 hg3 rb3 sb3
  have B3 := Lib.hid (bl_tr B2.out hb3.out)
  go_wp2_with fail
  refine use_b (awake01 _) ?_
  intro w4 hb4
  have B4 := Lib.hid (bl_tr B3.out hb4.out)
  have rm4 := Lib.hid (((rm1.out.below hb2.out).below hb3.out).below hb4.out)
  go_wp2_with fail
  have hh := held_any g l (.slice A n c) w4 rm4.out (HR.out.below B4.out) (by rw [HL.out]; exact hl)
  rw [HL.out] at hh
  refine use_b hh ?_
  intro w5 hb5
  have B5 := Lib.hid (bl_tr B4.out hb5.out)
  have rm5 := Lib.hid (rm4.out.below hb5.out)
  clear hh
  go_wp2_with fail
  have rb5 := Lib.hid (((rb2.out.below hb3.out).below hb4.out).below hb5.out)
  have kb5 := Lib.hid (((Kp.of_below hb3.out).trans (Kp.of_below hb4.out)).trans (Kp.of_below hb5.out) : Kp (fun _ => False) w2 w5)
  have kq5 := Lib.hid ((Kp.of_below hb4.out).trans (Kp.of_below hb5.out) : Kp (fun _ => False) w3 w5)
  have hgb : g < w1.heap.size := blk_lt rm1.out
  have hbq : b < w2.heap.size := rb2.out.lt
  have hg1' := hg1.out
  have hg2' := hg2.out
  have hg3' := hg3.out
  have hs1 := hb1.out.size
  have hs2 := hb2.out.size
  have hs3 := hb3.out.size
  have HN := HL
  clear hb1 hb2 hb3 hb4 hb5 rm1 rm4 rb2 rb3 rb5 hg1 hg2 hg3 B2 B3 B4
  go_loopw [8] (fun i wr => XorRel g n i w5 wr) (fun i _ => n - (intOf i).toNat)
  case atStart => exact ⟨0, l ++ mark 40, by omega, rfl, rm5.out, by rw [List.length_append, HL.out]; omega, Kp.refl _ _⟩
  case round =>
    obtain ⟨k, l', hk, rfl, hh, hl', hkp⟩ := hrel
    have HH := Lib.hid hh
    have HK := Lib.hid hkp
    clear hh hkp
    by_cases hlt : k < n
    · have z1 : wr.frozen? ⟨g, k, none⟩ = false := blk_frozen HH.out k
      obtain ⟨x, z2⟩ : ∃ x, wr.cell? ⟨g, k, none⟩ = some (.int .u8 x) := ⟨l'.getD k 0, by
        rw [blk_cell HH.out k]
        show (l'.map (Value.int .u8)).toArray[k]? = _
        rw [List.getElem?_toArray, List.getElem?_map, List.getElem?_eq_getElem (by omega), List.getD_eq_getElem?_getD, List.getElem?_eq_getElem (by omega)]; rfl⟩
      go_wp2
      go_roundw
      case measure => simp [intOf]; omega
      case rel =>
        refine ⟨k + 1, l'.set k (bits .xor .u8 x 85), by omega, by go_num, ?_, by simpa using hl', HK.out.set rfl _⟩
        have := blk_set HH.out k (.int .u8 (bits .xor .u8 x 85))
        rw [this]
        simp [List.map_set]
    · have hkp := HK.out
      have rbr : Hid (Rdr wr b l 0) := sb2.out (fun x => x = g) wr (Kp.trans (Kp.mono kb5.out (fun _ h => h.elim)) HK.out) (fun k hk => by omega)
      have rqr : Hid (Rdr wr q l 0) := sb3.out (fun x => x = g) wr (Kp.trans (Kp.mono kq5.out (fun _ h => h.elim)) HK.out) (fun k hk => by omega)
      have Br := Lib.hid (bl_kp B5.out HK.out (fun k hk => by omega))
      clear hkp HK HH B5 rm5 sb2 sb3 kb5 kq5
      go_wp2_with fail
      have hbw : w.heap.size ≤ b := by omega
      have hqw : w.heap.size ≤ q := by omega
      have hne : b ≠ q := by omega

      go_loopw [9, 10, 11] (fun x y i wr => ReadsRel w l b q st.length x y i wr) (fun _ _ i _ => st.length - (intOf i).toNat)
      case atStart => exact ⟨0, 0, 0, by omega, rfl, HR.out, HR.out, rbr.out, rqr.out, Br.out⟩
      case round =>
        obtain ⟨j, px, py, hj, rfl, hx, hy, hrb, hrq, hbl⟩ := hrel
        have HX := Lib.hid hx
        have HY := Lib.hid hy
        have RB := Lib.hid hrb
        have RQ := Lib.hid hrq
        have BL := Lib.hid hbl
        clear hx hy hrb hrq hbl rbr rqr Br
        by_cases hlt : j < st.length
        · obtain ⟨ad, rfl, hc0, hc1⟩ : ∃ ad, B = some ad ∧ w.cell? (ad.add (j * 2)) = some (.int .i64 (st.getD j (0, 0)).1) ∧ w.cell? ((ad.add (j * 2)).add 1) = some (.int .i64 (st.getD j (0, 0)).2) := by
            obtain ⟨ad, e, hc⟩ := HS.out.2 (by omega)
            exact ⟨ad, e, hc j hlt⟩
          have hst := HS.out.1
          have hI2 : I64 (st.getD j (0, 0)).2 := HI.out _ (by rw [List.getD_eq_getElem?_getD, List.getElem?_eq_getElem hlt]; exact List.getElem_mem hlt)
          obtain ⟨⟨K, M⟩, hKM⟩ : ∃ p, st.getD j (0, 0) = p := ⟨_, rfl⟩
          rw [hKM] at hc0 hc1 hI2
          have HI2 := Lib.hid hI2
          clear hKM hI2
          rw [add1] at hc1
          have h0 := keepc BL hc0
          have h1 := keepc BL hc1
          clear hc0 hc1
          go_wp2_with fail
          · refine use_reads (reads_any q l py _ K M w wr RQ.out HBY.out HY.out BL.out hqw HI2.out) ?_
            intro p6 v6 w6 hv6 hr6 hk6
            have B6 := Lib.hid (bl_kp BL.out hk6.out (fun k hk => by omega))
            have RB6 := Lib.hid (RB.out.other hk6.out RQ.out hne)
            go_wp2
            go_roundw
            case measure => simp [intOf]; omega
            case rel => exact ⟨j + 1, px, p6, by omega, by go_num, HX.out, hv6.out, RB6.out, hr6.out, B6.out⟩
          · refine use_reads (reads_any b l px _ K M w wr RB.out HBY.out HX.out BL.out hbw HI2.out) ?_
            intro p6 v6 w6 hv6 hr6 hk6
            have B6 := Lib.hid (bl_kp BL.out hk6.out (fun k hk => by omega))
            have RQ6 := Lib.hid (RQ.out.other hk6.out RB.out (Ne.symm hne))
            go_wp2
            go_roundw
            case measure => simp [intOf]; omega
            case rel => exact ⟨j + 1, p6, py, by omega, by go_num, hv6.out, HY.out, hr6.out, RQ6.out, B6.out⟩
        · go_wp2_with fail
          refine use_reads (reads_any b l px _ 5 0 w wr RB.out HBY.out HX.out BL.out hbw (by unfold I64; omega)) ?_
          intro p6 v6 w6 hv6 hr6 hk6
          have B6 := Lib.hid (bl_kp BL.out hk6.out (fun k hk => by omega))
          have RQ6 := Lib.hid (RQ.out.other hk6.out RB.out (Ne.symm hne))
          go_wp2_with fail
          refine use_reads (reads_any q l py _ 6 0 w w6 RQ6.out HBY.out HY.out B6.out hqw (by unfold I64; omega)) ?_
          intro p7 v7 w7 hv7 hr7 hk7
          have B7 := Lib.hid (bl_kp B6.out hk7.out (fun k hk => by omega))
          go_wp2
          go_ret
          exact ⟨rfl, B7.out⟩
end Go.Proofs.Ytehcimecmbcdfaa
