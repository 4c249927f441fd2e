/- Contracts: the reference's reader of codes (ref19.taking). -/
import Derived.Test.YtehcimecmbcdfaaXDecQ
import Derived.Test.YtehcimecmbcdfaaXReads
set_option linter.unusedSimpArgs false
set_option linter.unusedVariables false
namespace Go.Proofs.Ytehcimecmbcdfaa
open Go.RowKit

def TkR (w0 w : World) (q : Nat) (σ : Tk) : Prop := ∃ v, w.heap[q]? = some (.cells #[v, .int .i64 σ.e] 102 (0, 0)) ∧ RdS w0 .u8 v σ.t ∧ Below w0.heap.size w0 w ∧ w0.heap.size ≤ q ∧ Byt σ.t
def TkPost (w0 w : World) (q : Nat) (r : Int × Tk) (e : Ending) (w' : World) : Prop := e = .returned (.int .i64 r.1) ∧ TkR w0 w' q r.2 ∧ Kp (· = q) w w'
theorem TkR.below {w0 w w1 : World} {q : Nat} {σ : Tk} (h : TkR w0 w q σ) (hb : Below w.heap.size w w1) : TkR w0 w1 q σ := by
  obtain ⟨v, h1, h2, h3, h4⟩ := h
  exact ⟨v, blk_below h1 hb, h2, bl_tr h3 hb, h4⟩
theorem TkR.far {w0 w w1 : World} {q g : Nat} {σ : Tk} (h : TkR w0 w q σ) (hk : Kp (· = g) w w1) (hg : g ≠ q) (hgw : w0.heap.size ≤ g) : TkR w0 w1 q σ := by
  obtain ⟨v, h1, h2, h3, h4⟩ := h
  exact ⟨v, hk.blk (Ne.symm hg) h1, h2, bl_kp h3 hk (fun k e => by omega), h4⟩
theorem use_tk {f : FuncId} {args : Array Value} {w0 w : World} {q : Nat} {r : Int × Tk} {R : Ending → World → Prop} (h : Calls Try.prog f args w (TkPost w0 w q r))
    (k : ∀ w1, Hid (TkR w0 w1 q r.2) → Hid (Kp (· = q) w w1) → R (.returned (.int .i64 r.1)) w1) : Calls Try.prog f args w R :=
  h.mono fun e w1 ⟨he, h1, h2⟩ => by
    subst he
    exact k w1 h1 h2
theorem uintOf_le {t : List Int} (h : Byt t) : (uintOf t).2.1 ≤ t.length := by
  unfold uintOf
  cases hv : vread t with
  | short => simp
  | form => simp
  | ok x n => simp only; split <;> simp <;> exact (vread_facts h hv).1
theorem sintOf_le {t : List Int} (h : Byt t) : (sintOf t).2.1 ≤ t.length := by
  unfold sintOf
  cases hv : vread t with
  | short => simp
  | form => simp
  | ok x n => exact (vread_facts h hv).1
set_option maxHeartbeats 400000 in
theorem rtSmall (w0 : World) (q : Nat) (σ : Tk) (w : World) (h : TkR w0 w q σ) :
    Calls Try.prog 75 #[.pointer (some ⟨q, 0, none⟩)] w (TkPost w0 w q (σ.rd byteOf)) := by
  obtain ⟨t, e⟩ := σ
  obtain ⟨v, h1, h2, h3, h4, h5⟩ := h
  simp only at h1 h2 h5
  have H1 := Lib.hid h1
  have H2 := Lib.hid h2
  have H3 := Lib.hid h3
  have c0 : w.cell? ⟨q, 0, none⟩ = some v := blk_cell h1 0
  have c1 : w.cell? ⟨q, 1, none⟩ = some (.int .i64 e) := blk_cell h1 1
  have z0 : w.frozen? ⟨q, 0, none⟩ = false := blk_frozen h1 0
  have z1 : w.frozen? ⟨q, 1, none⟩ = false := blk_frozen h1 1
  have HB := Lib.hid h5
  clear h1 h3 h5
  by_cases he : e = 0
  · subst he
    obtain ⟨A, c, rfl, hc, hA, hr⟩ := h2
    cases t with
    | nil =>
      clear hr hc hA
      go_enter Try.func75, Try.ntmps75
      go_wp2
      go_ret
      refine ⟨rfl, ⟨.slice A 0 c, ?_, H2.out, bl_kp H3.out ((Kp.refl (· = q) w).set rfl _) (fun k hk => by omega), h4, HB.out⟩, (Kp.refl (· = q) _).set rfl _⟩
      exact blk_set H1.out 1 _
    | cons x tl =>
      obtain ⟨ad, rfl, hx⟩ := hr.at_ 0 (by simp)
      have hx1 : w.cell? ad = some (.int .u8 x) := by have := keepc H3 hx; rw [add_zero] at this; simpa using this
      obtain ⟨g1, g2⟩ := HB.out x List.mem_cons_self
      obtain ⟨i0, hi0, -, hz1, -⟩ := info_parts info_u8
      obtain ⟨A', c', hrun, hrd⟩ := cut_l 36 5 Try.underlying36 hi0 hz1 (some ad) c (x :: tl) 1 (by simp) hc hA
      have HRD := Lib.hid (hrd w0 .u8 hr)
      have hl : (x :: tl).length ≤ 9223372036854775807 := hr.1
      obtain ⟨n, hn⟩ : ∃ n, (x :: tl).length = n := ⟨_, rfl⟩
      have hn1 : 1 ≤ n := by rw [← hn]; simp
      rw [hn] at hrun hl c0 HRD
      have hrun1 : ∀ W : World, (Instr.slice 36 (.slice (some ad) n c) (some (.int .i64 1)) none none).run Try.prog W = .ok (.slice A' (n - 1) c') W := hrun
      clear hrun
      have b1 : (n == 0) = false := by simpa using (by omega : ¬ n = 0)
      have b2 : ((n : Int) == 0) = false := by simpa using (by omega : ¬ n = 0)
      clear hrd hr hc hA hx hn
      go_enter Try.func75, Try.ntmps75
      go_wp2
      go_ret
      refine ⟨rfl, ⟨.slice A' (n - 1) c', ?_, HRD.out, bl_kp H3.out ((Kp.refl (· = q) w).set rfl _) (fun k hk => by omega), h4, HB.out.drop 1⟩, (Kp.refl (· = q) _).set rfl _⟩
      exact blk_set H1.out 0 _
  · have e1 : (e != 0) = true := by rw [bne_iff_ne]; exact he
    have hh := Lib.hid (show (⟨t, e⟩ : Tk).rd byteOf = (0, ⟨t, e⟩) by unfold Tk.rd; rw [if_neg he])
    clear he h2
    go_enter Try.func75, Try.ntmps75
    go_wp2
    go_ret
    exact ⟨by rw [hh.out]; rfl, by rw [hh.out]; exact ⟨v, H1.out, H2.out, H3.out, h4, HB.out⟩, Kp.refl _ _⟩
set_option maxHeartbeats 400000 in
theorem rtNat (w0 : World) (q : Nat) (σ : Tk) (w : World) (h : TkR w0 w q σ) :
    Calls Try.prog 76 #[.pointer (some ⟨q, 0, none⟩)] w (TkPost w0 w q (σ.rd uintOf)) := by
  obtain ⟨t, e⟩ := σ
  obtain ⟨v, h1, h2, h3, h4, h5⟩ := h
  simp only at h1 h2 h5
  have H1 := Lib.hid h1
  have H2 := Lib.hid h2
  have H3 := Lib.hid h3
  have c0 : w.cell? ⟨q, 0, none⟩ = some v := blk_cell h1 0
  have c1 : w.cell? ⟨q, 1, none⟩ = some (.int .i64 e) := blk_cell h1 1
  have HB := Lib.hid h5
  clear h1 h3 h5
  by_cases he : e = 0
  · subst he
    obtain ⟨A, c, rfl, hc, hA, hr⟩ := h2
    have hle := uintOf_le HB.out
    obtain ⟨⟨x, n, er⟩, hx⟩ : ∃ r, uintOf t = r := ⟨_, rfl⟩
    rw [hx] at hle
    simp only at hle
    have HX : Hid ((⟨t, 0⟩ : Tk).rd uintOf = (x, ⟨t.drop n, er⟩)) := Lib.hid (by unfold Tk.rd; simp only [if_true]; rw [hx])
    obtain ⟨i0, hi0, -, hz1, -⟩ := info_parts info_u8
    obtain ⟨A', c', hrun, hrd⟩ := cut_l 36 5 Try.underlying36 hi0 hz1 A c t n hle hc hA
    have HRD := Lib.hid (hrd w0 .u8 hr)
    have hl : t.length ≤ 9223372036854775807 := hr.1
    have hcl : ∀ W, RdS W .u8 (.slice A t.length c) t → Hid (Calls Try.prog 62 #[.slice A t.length c] W (RefPost W (x, n, er))) := fun W h => by have := refReadUint (.slice A t.length c) t W h HB.out hl; rw [hx] at this; exact Lib.hid this
    obtain ⟨m, hm⟩ : ∃ m, t.length = m := ⟨_, rfl⟩
    rw [hm] at hrun hl c0 HRD hcl hle H1 H2
    clear hrd hr hc hA hm hx
    go_enter Try.func76, Try.ntmps76
    go_wp2_with fail
    refine use_ref (hcl _ (H2.out.below H3.out)).out ?_
    intro w1 hb1
    simp only
    have H11 := Lib.hid (blk_below H1.out hb1.out)
    have k0 : w1.cell? ⟨q, 0, none⟩ = some (.slice A m c) := blk_cell H11.out 0
    have k1 : w1.cell? ⟨q, 1, none⟩ = some (.int .i64 0) := blk_cell H11.out 1
    have z0 : w1.frozen? ⟨q, 0, none⟩ = false := blk_frozen H11.out 0
    have z1 : w1.frozen? ⟨q, 1, none⟩ = false := blk_frozen H11.out 1
    go_wp2
    go_ret
    have hks := ((Kp.refl (· = q) w1).set (p := ⟨q, 1, none⟩) rfl (.int .i64 er)).set (p := ⟨q, 0, none⟩) rfl (.slice A' (m - n) c')
    rw [HX.out]
    refine ⟨rfl, ⟨.slice A' (m - n) c', blk_set (blk_set H11.out 1 _) 0 _, HRD.out, bl_kp (bl_tr H3.out hb1.out) hks (fun k hk => by omega), h4, HB.out.drop n⟩, (Kp.of_below hb1.out).trans hks⟩
  · have e1 : (e != 0) = true := by rw [bne_iff_ne]; exact he
    have hh := Lib.hid (show (⟨t, e⟩ : Tk).rd uintOf = (0, ⟨t, e⟩) by unfold Tk.rd; rw [if_neg he])
    clear he h2
    go_enter Try.func76, Try.ntmps76
    go_wp2
    go_ret
    exact ⟨by rw [hh.out]; rfl, by rw [hh.out]; exact ⟨v, H1.out, H2.out, H3.out, h4, HB.out⟩, Kp.refl _ _⟩
set_option maxHeartbeats 400000 in
theorem rtNum (w0 : World) (q : Nat) (σ : Tk) (w : World) (h : TkR w0 w q σ) :
    Calls Try.prog 79 #[.pointer (some ⟨q, 0, none⟩)] w (TkPost w0 w q (σ.rd sintOf)) := by
  obtain ⟨t, e⟩ := σ
  obtain ⟨v, h1, h2, h3, h4, h5⟩ := h
  simp only at h1 h2 h5
  have H1 := Lib.hid h1
  have H2 := Lib.hid h2
  have H3 := Lib.hid h3
  have c0 : w.cell? ⟨q, 0, none⟩ = some v := blk_cell h1 0
  have c1 : w.cell? ⟨q, 1, none⟩ = some (.int .i64 e) := blk_cell h1 1
  have HB := Lib.hid h5
  clear h1 h3 h5
  by_cases he : e = 0
  · subst he
    obtain ⟨A, c, rfl, hc, hA, hr⟩ := h2
    have hle := sintOf_le HB.out
    obtain ⟨⟨x, n, er⟩, hx⟩ : ∃ r, sintOf t = r := ⟨_, rfl⟩
    rw [hx] at hle
    simp only at hle
    have HX : Hid ((⟨t, 0⟩ : Tk).rd sintOf = (x, ⟨t.drop n, er⟩)) := Lib.hid (by unfold Tk.rd; simp only [if_true]; rw [hx])
    obtain ⟨i0, hi0, -, hz1, -⟩ := info_parts info_u8
    obtain ⟨A', c', hrun, hrd⟩ := cut_l 36 5 Try.underlying36 hi0 hz1 A c t n hle hc hA
    have HRD := Lib.hid (hrd w0 .u8 hr)
    have hl : t.length ≤ 9223372036854775807 := hr.1
    have hcl : ∀ W, RdS W .u8 (.slice A t.length c) t → Hid (Calls Try.prog 63 #[.slice A t.length c] W (RefPost W (x, n, er))) := fun W h => by have := refReadInt (.slice A t.length c) t W h HB.out hl; rw [hx] at this; exact Lib.hid this
    obtain ⟨m, hm⟩ : ∃ m, t.length = m := ⟨_, rfl⟩
    rw [hm] at hrun hl c0 HRD hcl hle H1 H2
    clear hrd hr hc hA hm hx
    go_enter Try.func79, Try.ntmps79
    go_wp2_with fail
    refine use_ref (hcl _ (H2.out.below H3.out)).out ?_
    intro w1 hb1
    simp only
    have H11 := Lib.hid (blk_below H1.out hb1.out)
    have k0 : w1.cell? ⟨q, 0, none⟩ = some (.slice A m c) := blk_cell H11.out 0
    have k1 : w1.cell? ⟨q, 1, none⟩ = some (.int .i64 0) := blk_cell H11.out 1
    have z0 : w1.frozen? ⟨q, 0, none⟩ = false := blk_frozen H11.out 0
    have z1 : w1.frozen? ⟨q, 1, none⟩ = false := blk_frozen H11.out 1
    go_wp2
    go_ret
    have hks := ((Kp.refl (· = q) w1).set (p := ⟨q, 1, none⟩) rfl (.int .i64 er)).set (p := ⟨q, 0, none⟩) rfl (.slice A' (m - n) c')
    rw [HX.out]
    refine ⟨rfl, ⟨.slice A' (m - n) c', blk_set (blk_set H11.out 1 _) 0 _, HRD.out, bl_kp (bl_tr H3.out hb1.out) hks (fun k hk => by omega), h4, HB.out.drop n⟩, (Kp.of_below hb1.out).trans hks⟩
  · have e1 : (e != 0) = true := by rw [bne_iff_ne]; exact he
    have hh := Lib.hid (show (⟨t, e⟩ : Tk).rd sintOf = (0, ⟨t, e⟩) by unfold Tk.rd; rw [if_neg he])
    clear he h2
    go_enter Try.func79, Try.ntmps79
    go_wp2
    go_ret
    exact ⟨by rw [hh.out]; rfl, by rw [hh.out]; exact ⟨v, H1.out, H2.out, H3.out, h4, HB.out⟩, Kp.refl _ _⟩
set_option maxHeartbeats 400000 in
theorem rtBack (w0 : World) (q : Nat) (σ : Tk) (p : Int) (w : World) (h : TkR w0 w q σ) (h0 : 0 ≤ p) (h1 : p ≤ 9223372036854775807) :
    Calls Try.prog 78 #[.pointer (some ⟨q, 0, none⟩), .int .i64 p] w (TkPost w0 w q (σ.reg p)) := by
  have H := Lib.hid h
  clear h
  obtain ⟨⟨n, σ1⟩, hr⟩ : ∃ r, σ.rd uintOf = r := ⟨_, rfl⟩
  have hrg := rdu_rg σ
  have hc := fun W h => Lib.hid (rtNat w0 q σ W h)
  rw [hr] at hrg hc
  have hreg := Lib.hid (show σ.reg p = (p - 1 - n, σ1.fail (decide (p ≤ n)) 15) by unfold Tk.reg; rw [hr])
  clear hr
  simp only at hrg
  obtain ⟨g1, g2⟩ := hrg
  obtain ⟨t, e⟩ := σ1
  by_cases he : e = 0
  · subst he
    by_cases hpn : p ≤ n
    · have hf := Lib.hid (show (⟨t, 0⟩ : Tk).fail (decide (p ≤ n)) 15 = ⟨t, 15⟩ by unfold Tk.fail; rw [decide_eq_true hpn]; rfl)
      have hgt : p - 1 < n := by omega
      go_enter Try.func78, Try.ntmps78
      go_wp2_with fail
      refine use_tk (hc _ H.out).out ?_
      intro w1 hp1 hk1
      simp only at hp1 ⊢
      obtain ⟨v, k1, k2, k3, k4, k5⟩ := hp1.out
      have c1 : w1.cell? ⟨q, 1, none⟩ = some (.int .i64 0) := blk_cell k1 1
      have z1 : w1.frozen? ⟨q, 1, none⟩ = false := blk_frozen k1 1
      have K1 := Lib.hid k1
      have K2 := Lib.hid k2
      have K3 := Lib.hid k3
      have K5 := Lib.hid k5
      clear k1 k2 k3 k5
      go_wp2
      go_ret
      refine ⟨by rw [hreg.out]; rfl, ?_, hk1.out.set rfl _⟩
      rw [hreg.out, hf.out]
      exact ⟨v, blk_set K1.out 1 _, K2.out, bl_kp K3.out ((Kp.refl (· = q) w1).set rfl _) (fun k hk => by omega), k4, K5.out⟩
    · have hf := Lib.hid (show (⟨t, 0⟩ : Tk).fail (decide (p ≤ n)) 15 = ⟨t, 0⟩ by unfold Tk.fail; rw [decide_eq_false hpn]; simp)
      have hgt : n ≤ p - 1 := by omega
      go_enter Try.func78, Try.ntmps78
      go_wp2_with fail
      refine use_tk (hc _ H.out).out ?_
      intro w1 hp1 hk1
      simp only at hp1 ⊢
      have c1 : w1.cell? ⟨q, 1, none⟩ = some (.int .i64 0) := by obtain ⟨v, k1, -⟩ := hp1.out; exact blk_cell k1 1
      go_wp2
      go_ret
      refine ⟨by rw [hreg.out]; rfl, ?_, hk1.out⟩
      rw [hreg.out, hf.out]
      exact hp1.out
  · have hf := Lib.hid (show (⟨t, e⟩ : Tk).fail (decide (p ≤ n)) 15 = ⟨t, e⟩ by unfold Tk.fail; rw [if_neg (fun hh => he hh.2)])
    have e1 : (e == 0) = false := by simpa using he
    clear he
    go_enter Try.func78, Try.ntmps78
    go_wp2_with fail
    refine use_tk (hc _ H.out).out ?_
    intro w1 hp1 hk1
    simp only at hp1 ⊢
    have c1 : w1.cell? ⟨q, 1, none⟩ = some (.int .i64 e) := by obtain ⟨v, k1, -⟩ := hp1.out; exact blk_cell k1 1
    go_wp2
    go_ret
    refine ⟨by rw [hreg.out]; rfl, ?_, hk1.out⟩
    rw [hreg.out, hf.out]
    exact hp1.out
end Go.Proofs.Ytehcimecmbcdfaa
