/- Texts joined: XEn. -/
import Derived.Test.YtgodhpampaleeaaDoorEl
set_option maxRecDepth 4000
/- Layer 24: what a content shows at a point: the program's answer and the document's. (Printed by mk_en.py.) -/
namespace Go.Proofs.YtgodhpampaleeaaDoor
open Go.RowKit Go.Bx Go.Od Go.Hp
attribute [local go_sem ↓] Go.wp_at_zero Go.wp_at_succ
set_option linter.unusedVariables false

theorem fhas_c (r : Rc) (x y : Int) (w : World) : Calls Tryd.prog 15 #[rv r, .int .i64 x, .int .i64 y] w (PPost w (.bool (hasR r x y))) := by
  obtain ⟨x0, y0, x1, y1⟩ := r
  have HX : Hid (Box (w.alloc (.cells (cs4 x0 y0 x1 y1) 25)) w.heap.size (cl4 ⟨x0, y0, x1, y1⟩) ∧ Below w.heap.size w (w.alloc (.cells (cs4 x0 y0 x1 y1) 25))) := ⟨Box.new w _ _, below_new _ _⟩
  obtain ⟨d0, h0⟩ : ∃ d, decide (x0 ≤ x) = d := ⟨_, rfl⟩
  obtain ⟨d1, h1⟩ : ∃ d, decide (x < x1) = d := ⟨_, rfl⟩
  obtain ⟨d2, h2⟩ : ∃ d, decide (y0 ≤ y) = d := ⟨_, rfl⟩
  obtain ⟨d3, h3⟩ : ∃ d, decide (y < y1) = d := ⟨_, rfl⟩
  have HE : Hid (hasR ⟨x0, y0, x1, y1⟩ x y = (d0 && (d1 && (d2 && d3)))) := by
    have : hasR ⟨x0, y0, x1, y1⟩ x y = (d0 && (d1 && (d2 && d3))) := by unfold hasR; rw [h0, h1, h2, h3]
    exact this
  cases d0 with
  | false =>
    go_enter Tryd.func15, Tryd.ntmps15
    go_wp2_with fail
    go_ret
    exact ⟨ret_b HE.out.symm, HX.out.2⟩
  | true =>
    cases d1 with
    | false =>
      go_enter Tryd.func15, Tryd.ntmps15
      go_wp2_with fail
      go_ret
      exact ⟨ret_b HE.out.symm, HX.out.2⟩
    | true =>
      cases d2 with
      | false =>
        go_enter Tryd.func15, Tryd.ntmps15
        go_wp2_with fail
        go_ret
        exact ⟨ret_b HE.out.symm, HX.out.2⟩
      | true =>
        cases d3 with
        | false =>
          go_enter Tryd.func15, Tryd.ntmps15
          go_wp2_with fail
          go_ret
          exact ⟨ret_b HE.out.symm, HX.out.2⟩
        | true =>
          go_enter Tryd.func15, Tryd.ntmps15
          go_wp2_with fail
          go_ret
          exact ⟨ret_b HE.out.symm, HX.out.2⟩
/-- what a content shows at a point -/
def pixR (c : Ct) (x y : Int) : Px :=
  if c.kind = 1 then (if hasR c.box x y = true then c.px else Px.zero)
  else if c.kind = 2 then
    (let u := Vc.fx (Vc.qn c.turn) c.w c.h (x - c.box.x0) (y - c.box.y0)
     let v := Vc.fy (Vc.qn c.turn) c.w c.h (x - c.box.x0) (y - c.box.y0)
     if u < 0 ∨ v < 0 ∨ c.w ≤ u ∨ c.h ≤ v then Px.zero else c.pix.getD (v * c.w + u).toNat Px.zero)
  else Px.zero
theorem has_some (r : Rc) (x y : Int) : hasR (someR r) x y = hasR r x y := by
  obtain ⟨x0, y0, x1, y1⟩ := r
  unfold someR joinR
  rw [if_pos (show Rc.zero.emp = true from rfl)]
  split
  · rename_i h
    rw [emp_iff] at h
    dsimp only at h
    rw [Bool.eq_iff_iff]
    unfold hasR
    simp only [Bool.and_eq_true, decide_eq_true_eq]
    dsimp only [Rc.zero]
    omega
  · rfl
theorem has_zero (x y : Int) : hasR Rc.zero x y = false := by
  rw [← Bool.not_eq_true]
  unfold hasR
  simp only [Bool.and_eq_true, decide_eq_true_eq]
  dsimp only [Rc.zero]
  omega
theorem in_turned (q : Nat) (w h x y : Int) : (0 ≤ x ∧ x < Vc.sx q w h ∧ 0 ≤ y ∧ y < Vc.sy q w h) ↔ ¬ (Vc.fx q w h x y < 0 ∨ Vc.fy q w h x y < 0 ∨ w ≤ Vc.fx q w h x y ∨ h ≤ Vc.fy q w h x y) := by
  match q with
  | 0 => show (0 ≤ x ∧ x < w ∧ 0 ≤ y ∧ y < h) ↔ ¬ (x < 0 ∨ y < 0 ∨ w ≤ x ∨ h ≤ y); omega
  | 1 => show (0 ≤ x ∧ x < h ∧ 0 ≤ y ∧ y < w) ↔ ¬ (y < 0 ∨ h - 1 - x < 0 ∨ w ≤ y ∨ h ≤ h - 1 - x); omega
  | 2 => show (0 ≤ x ∧ x < w ∧ 0 ≤ y ∧ y < h) ↔ ¬ (w - 1 - x < 0 ∨ h - 1 - y < 0 ∨ w ≤ w - 1 - x ∨ h ≤ h - 1 - y); omega
  | q + 3 => show (0 ≤ x ∧ x < h ∧ 0 ≤ y ∧ y < w) ↔ ¬ (w - 1 - y < 0 ∨ x < 0 ∨ w ≤ w - 1 - y ∨ h ≤ x); omega
theorem idx_lt {u v w h : Int} (hu : 0 ≤ u ∧ u < w) (hv : 0 ≤ v ∧ v < h) : 0 ≤ v * w + u ∧ v * w + u < w * h ∧ 0 ≤ v * w := by
  have h1 : 0 ≤ v * w := Int.mul_nonneg hv.1 (by omega)
  have h2 : (v + 1) * w ≤ h * w := Int.mul_le_mul_of_nonneg_right (by omega) (by omega)
  rw [Int.add_mul, Int.one_mul] at h2
  rw [Int.mul_comm w h]
  omega
set_option maxRecDepth 8000 in
set_option maxHeartbeats 12800000 in
theorem pixel24_c (B : Nat) (c : Ct) (v : Value) (x y : Int) (w : World) (hc : CtOk c) (hv : SlOf RPx 4 (· < B) w v c.pix) (hB : B ≤ w.heap.size) (hx : -16777216 ≤ x ∧ x ≤ 16777216) (hy : -16777216 ≤ y ∧ y ≤ 16777216) :
    Calls Tryd.prog 7 #[ctv c v, .int .i64 x, .int .i64 y] w (PPost w (pxv (pixR c x y))) := by
  have HV0 := hv
  obtain ⟨va, vn, vm, hvf⟩ := sl_form hv
  subst hvf
  have hvn : vn = c.pix.length ∧ vn ≤ vm ∧ vm ≤ maxLen := by
    obtain ⟨a, cc, h1, h2, h3, _⟩ := hv
    simp only [Value.slice.injEq] at h1
    obtain ⟨_, h4, h5⟩ := h1
    subst h5
    exact ⟨h4, by omega, h3⟩
  obtain ⟨R, hR⟩ : ∃ R, R = pixR c x y := ⟨_, rfl⟩
  have HR : Hid (R = pixR c x y ∧ CtOk c) := ⟨hR, hc⟩
  have HCt : Hid (∀ W, Calls Tryd.prog 16 #[ctv c (.slice va vn vm)] W (PPost W (rv (ctR c)))) := fun W => content_c c _ W hc ⟨_, _, _, rfl⟩
  rw [← hR]
  have hk := hc.kind
  obtain ⟨kind, ⟨x0, y0, x1, y1⟩, ⟨p0, p1, p2, p3⟩, cw, ch, turn, pix⟩ := c
  dsimp only at hk
  have HV : Hid (∀ W, Below w.heap.size w W → SlOf RPx 4 (· < B) W (.slice va vn vm) pix) := fun W hb => HV0.same RPx.ok (Same.of_below hb fun b (hbl : b < B) => Nat.lt_of_lt_of_le hbl hB)
  have HP : Hid (vn = pix.length) := hvn.1
  obtain ⟨hvq, hvm, hvmx⟩ := hvn
  clear hvq
  unfold maxLen at hvmx
  have HW : Hid (Bag w ((w.alloc (.cells #[.int .i64 kind, .int .i64 x0, .int .i64 y0, .int .i64 x1, .int .i64 y1, .int .u8 p0, .int .u8 p1, .int .u8 p2, .int .u8 p3, .int .i64 cw, .int .i64 ch, .int .i64 turn, .slice va vn vm] 30)).alloc (.cells #[.int .u8 0, .int .u8 0, .int .u8 0, .int .u8 0] 27)) [(w.heap.size, [.int .i64 kind, .int .i64 x0, .int .i64 y0, .int .i64 x1, .int .i64 y1, .int .u8 p0, .int .u8 p1, .int .u8 p2, .int .u8 p3, .int .i64 cw, .int .i64 ch, .int .i64 turn, .slice va vn vm]), (w.heap.size + 1, [.int .u8 0, .int .u8 0, .int .u8 0, .int .u8 0])]) := bag2 w [.int .i64 kind, .int .i64 x0, .int .i64 y0, .int .i64 x1, .int .i64 y1, .int .u8 p0, .int .u8 p1, .int .u8 p2, .int .u8 p3, .int .i64 cw, .int .i64 ch, .int .i64 turn, .slice va vn vm] [.int .u8 0, .int .u8 0, .int .u8 0, .int .u8 0] _ _
  obtain ⟨hx1, hx2⟩ := hx
  obtain ⟨hy1, hy2⟩ := hy
  clear hc HV0 hv hR hB
  rcases hk with rfl | rfl | rfl
  · obtain rfl : R = Px.zero := HR.out.1
    have HH : Hid (∀ W, Calls Tryd.prog 15 #[rv Rc.zero, .int .i64 x, .int .i64 y] W (PPost W (.bool false))) := fun W => by have h := fhas_c Rc.zero x y W; rw [has_zero] at h; exact h
    have HC0 : Hid (∀ W, Calls Tryd.prog 16 #[.agg #[.int .i64 0, .int .i64 x0, .int .i64 y0, .int .i64 x1, .int .i64 y1, .int .u8 p0, .int .u8 p1, .int .u8 p2, .int .u8 p3, .int .i64 cw, .int .i64 ch, .int .i64 turn, .slice va vn vm]] W (PPost W (rv Rc.zero))) := HCt.out
    clear HCt
    go_enter Tryd.func7, Tryd.ntmps7
    go_wp2_with fail
    refine (HC0.out _).mono ?_; rintro e W2 ⟨rfl, hb2⟩
    have H2 := Lib.hid (HW.out.call hb2)
    clear hb2 HW HC0
    go_wp2_with fail
    refine (HH.out _).mono ?_; rintro e W3 ⟨rfl, hb3⟩
    have H3 := Lib.hid (H2.out.call hb3)
    clear hb3 H2 HH
    have r0 : World.cell? _ _ = some (Value.int .u8 0) := H3.out.cell 1 rfl 0 rfl
    have r1 : World.cell? _ _ = some (Value.int .u8 0) := H3.out.cell 1 rfl 1 rfl
    have r2 : World.cell? _ _ = some (Value.int .u8 0) := H3.out.cell 1 rfl 2 rfl
    have r3 : World.cell? _ _ = some (Value.int .u8 0) := H3.out.cell 1 rfl 3 rfl
    have f0 := H3.out.frozen 1 rfl 0
    have f1 := H3.out.frozen 1 rfl 1
    have f2 := H3.out.frozen 1 rfl 2
    have f3 := H3.out.frozen 1 rfl 3
    go_wp2_with fail
    have HF := H3.out.set4 1 rfl (.int .u8 0) (.int .u8 0) (.int .u8 0) (.int .u8 0)
    exact ret_px (g := w.heap.size + 1) (p := ⟨0, 0, 0, 0⟩) rfl rfl (HF.box 1 rfl) rfl ⟨rfl, HF.below⟩
  · obtain ⟨h, hh⟩ : ∃ h, h = hasR (ctR ⟨1, ⟨x0, y0, x1, y1⟩, ⟨p0, p1, p2, p3⟩, cw, ch, turn, pix⟩) x y := ⟨_, rfl⟩
    have HH : Hid (∀ W, Calls Tryd.prog 15 #[rv (ctR ⟨1, ⟨x0, y0, x1, y1⟩, ⟨p0, p1, p2, p3⟩, cw, ch, turn, pix⟩), .int .i64 x, .int .i64 y] W (PPost W (.bool h))) := fun W => by rw [hh]; exact fhas_c _ x y W
    have hE0 : (h = true → R = ⟨p0, p1, p2, p3⟩) ∧ (h = false → R = Px.zero) := by
      have hR : R = if hasR ⟨x0, y0, x1, y1⟩ x y = true then ⟨p0, p1, p2, p3⟩ else Px.zero := HR.out.1
      have hC : ctR ⟨1, ⟨x0, y0, x1, y1⟩, ⟨p0, p1, p2, p3⟩, cw, ch, turn, pix⟩ = if pxEq ⟨p0, p1, p2, p3⟩ Px.zero = true then Rc.zero else someR ⟨x0, y0, x1, y1⟩ := rfl
      rw [hC] at hh
      by_cases hp : pxEq ⟨p0, p1, p2, p3⟩ Px.zero = true
      · rw [if_pos hp, has_zero] at hh
        refine ⟨(fun e => by rw [hh] at e; cases e), fun _ => ?_⟩
        rw [hR, (pxEq_iff _ _).1 hp]
        split <;> rfl
      · rw [if_neg hp, has_some] at hh
        exact ⟨fun e => by rw [hR, ← hh, e]; rfl, fun e => by rw [hR, ← hh, e]; rfl⟩
    have HE := Lib.hid hE0
    clear hE0
    generalize ctR ⟨1, ⟨x0, y0, x1, y1⟩, ⟨p0, p1, p2, p3⟩, cw, ch, turn, pix⟩ = cr at *
    have HC0 : Hid (∀ W, Calls Tryd.prog 16 #[.agg #[.int .i64 1, .int .i64 x0, .int .i64 y0, .int .i64 x1, .int .i64 y1, .int .u8 p0, .int .u8 p1, .int .u8 p2, .int .u8 p3, .int .i64 cw, .int .i64 ch, .int .i64 turn, .slice va vn vm]] W (PPost W (rv cr))) := HCt.out
    clear HCt hh HR
    go_enter Tryd.func7, Tryd.ntmps7
    go_wp2_with fail
    refine (HC0.out _).mono ?_; rintro e W2 ⟨rfl, hb2⟩
    have H2 := Lib.hid (HW.out.call hb2)
    clear hb2 HW HC0
    go_wp2_with fail
    refine (HH.out _).mono ?_; rintro e W3 ⟨rfl, hb3⟩
    have H3 := Lib.hid (H2.out.call hb3)
    clear hb3 H2 HH
    have r0 : World.cell? _ _ = some (Value.int .u8 0) := H3.out.cell 1 rfl 0 rfl
    have r1 : World.cell? _ _ = some (Value.int .u8 0) := H3.out.cell 1 rfl 1 rfl
    have r2 : World.cell? _ _ = some (Value.int .u8 0) := H3.out.cell 1 rfl 2 rfl
    have r3 : World.cell? _ _ = some (Value.int .u8 0) := H3.out.cell 1 rfl 3 rfl
    have f0 := H3.out.frozen 1 rfl 0
    have f1 := H3.out.frozen 1 rfl 1
    have f2 := H3.out.frozen 1 rfl 2
    have f3 := H3.out.frozen 1 rfl 3
    cases h with
    | false =>
      obtain rfl : R = Px.zero := HE.out.2 rfl
      go_wp2_with fail
      have HF := H3.out.set4 1 rfl (.int .u8 0) (.int .u8 0) (.int .u8 0) (.int .u8 0)
      exact ret_px (g := w.heap.size + 1) (p := ⟨0, 0, 0, 0⟩) rfl rfl (HF.box 1 rfl) rfl ⟨rfl, HF.below⟩
    | true =>
      obtain rfl : R = ⟨p0, p1, p2, p3⟩ := HE.out.1 rfl
      have e0 := H3.out.cell 0 rfl 0 rfl
      have e5 := H3.out.cell 0 rfl 5 rfl
      have e6 := H3.out.cell 0 rfl 6 rfl
      have e7 := H3.out.cell 0 rfl 7 rfl
      have e8 := H3.out.cell 0 rfl 8 rfl
      go_wp2_with fail
      have HF := H3.out.set4 1 rfl (.int .u8 p0) (.int .u8 p1) (.int .u8 p2) (.int .u8 p3)
      exact ret_px (g := w.heap.size + 1) (p := ⟨p0, p1, p2, p3⟩) rfl rfl (HF.box 1 rfl) rfl ⟨rfl, HF.below⟩
  · 
    obtain ⟨⟨hw1, hw2⟩, ⟨hh1, hh2⟩, hpl, hpm, ⟨ht1, ht2⟩, hb0, hb1⟩ := HR.out.2.pic rfl
    dsimp only at hw1 hw2 hh1 hh2 hpl hpm ht1 ht2 hb0 hb1
    unfold Nc at hb0 hb1
    obtain ⟨hb0a, hb0b⟩ := hb0
    obtain ⟨hb1a, hb1b⟩ := hb1
    obtain ⟨q, hq⟩ : ∃ q, q = Vc.qn turn := ⟨_, rfl⟩
    obtain ⟨u, hu⟩ : ∃ u, u = Vc.fx q cw ch (x - x0) (y - y0) := ⟨_, rfl⟩
    obtain ⟨z, hz⟩ : ∃ u, u = Vc.fy q cw ch (x - x0) (y - y0) := ⟨_, rfl⟩
    have HIN : Hid ((0 ≤ x - x0 ∧ x - x0 < Vc.sx q cw ch ∧ 0 ≤ y - y0 ∧ y - y0 < Vc.sy q cw ch) ↔ ¬ (u < 0 ∨ z < 0 ∨ cw ≤ u ∨ ch ≤ z)) := by rw [hu, hz]; exact in_turned q cw ch (x - x0) (y - y0)
    have HFR : Hid (∀ W, Calls Tryd.prog 17 #[.int .i64 cw, .int .i64 ch, .int .i64 turn, .int .i64 (x - x0), .int .i64 (y - y0)] W (Vc.IPost W u z)) := fun W => by
      rw [hu, hz, hq]
      exact Vc.from_c cw ch turn (x - x0) (y - y0) W (by omega) (by omega) (by omega) (by omega) (by omega) (by omega) (by unfold Vc.Nr; omega) (by unfold Vc.Nr; omega)
    have HR2 : Hid (R = if u < 0 ∨ z < 0 ∨ cw ≤ u ∨ ch ≤ z then Px.zero else pix.getD (z * cw + u).toNat Px.zero) := by
      have : R = if u < 0 ∨ z < 0 ∨ cw ≤ u ∨ ch ≤ z then Px.zero else pix.getD (z * cw + u).toNat Px.zero := by rw [HR.out.1, hu, hz, hq]; rfl
      exact this
    obtain ⟨h, hh⟩ : ∃ h, h = hasR ⟨x0, y0, x0 + Vc.sx q cw ch, y0 + Vc.sy q cw ch⟩ x y := ⟨_, rfl⟩
    obtain ⟨sw, hsw⟩ : ∃ s, s = Vc.sx q cw ch := ⟨_, rfl⟩
    obtain ⟨sh, hsh⟩ : ∃ s, s = Vc.sy q cw ch := ⟨_, rfl⟩
    rw [← hsw, ← hsh] at hh
    have HC0 : Hid (∀ W, Calls Tryd.prog 16 #[.agg #[.int .i64 2, .int .i64 x0, .int .i64 y0, .int .i64 x1, .int .i64 y1, .int .u8 p0, .int .u8 p1, .int .u8 p2, .int .u8 p3, .int .i64 cw, .int .i64 ch, .int .i64 turn, .slice va vn vm]] W (PPost W (rv ⟨x0, y0, x0 + sw, y0 + sh⟩))) := by
      have h := HCt.out
      intro W
      rw [hsw, hsh, hq]
      exact h W
    have HH : Hid (∀ W, Calls Tryd.prog 15 #[rv ⟨x0, y0, x0 + sw, y0 + sh⟩, .int .i64 x, .int .i64 y] W (PPost W (.bool h))) := fun W => by rw [hh]; exact fhas_c _ x y W
    have HE : Hid (h = true ↔ ¬ (u < 0 ∨ z < 0 ∨ cw ≤ u ∨ ch ≤ z)) := by
      have : h = true ↔ ¬ (u < 0 ∨ z < 0 ∨ cw ≤ u ∨ ch ≤ z) := by
        rw [← HIN.out, hh, ← hsw, ← hsh]
        simp [hasR]
        omega
      exact this
    clear hu hz hq hh hsw hsh HCt HIN HR
    obtain ⟨cr, hcr⟩ : ∃ c : Rc, c = ⟨x0, y0, x0 + sw, y0 + sh⟩ := ⟨_, rfl⟩
    rw [← hcr] at HC0 HH
    clear hcr
    go_enter Tryd.func7, Tryd.ntmps7
    go_wp2_with fail
    refine (HC0.out _).mono ?_; rintro e W2 ⟨rfl, hb2⟩
    have H2 := Lib.hid (HW.out.call hb2)
    clear hb2 HW HC0
    go_wp2_with fail
    refine (HH.out _).mono ?_; rintro e W3 ⟨rfl, hb3⟩
    have H3 := Lib.hid (H2.out.call hb3)
    clear hb3 H2 HH
    have r0 : World.cell? _ _ = some (Value.int .u8 0) := H3.out.cell 1 rfl 0 rfl
    have r1 : World.cell? _ _ = some (Value.int .u8 0) := H3.out.cell 1 rfl 1 rfl
    have r2 : World.cell? _ _ = some (Value.int .u8 0) := H3.out.cell 1 rfl 2 rfl
    have r3 : World.cell? _ _ = some (Value.int .u8 0) := H3.out.cell 1 rfl 3 rfl
    have f0 := H3.out.frozen 1 rfl 0
    have f1 := H3.out.frozen 1 rfl 1
    have f2 := H3.out.frozen 1 rfl 2
    have f3 := H3.out.frozen 1 rfl 3
    cases h with
    | false =>
      have hn : u < 0 ∨ z < 0 ∨ cw ≤ u ∨ ch ≤ z := by
        have h := HE.out
        simp only [Bool.false_eq_true, false_iff, Decidable.not_not] at h
        exact h
      obtain rfl : R = Px.zero := HR2.out.trans (if_pos hn)
      clear hn
      go_wp2_with fail
      have HF := H3.out.set4 1 rfl (.int .u8 0) (.int .u8 0) (.int .u8 0) (.int .u8 0)
      exact ret_px (g := w.heap.size + 1) (p := ⟨0, 0, 0, 0⟩) rfl rfl (HF.box 1 rfl) rfl ⟨rfl, HF.below⟩
    | true =>
      have hn : ¬ (u < 0 ∨ z < 0 ∨ cw ≤ u ∨ ch ≤ z) := HE.out.1 rfl
      obtain ⟨g1, g2, g3, g4⟩ : 0 ≤ u ∧ 0 ≤ z ∧ u < cw ∧ z < ch := by omega
      obtain ⟨ix1, ix2, ix3⟩ := idx_lt (u := u) (v := z) (w := cw) (h := ch) ⟨g1, g3⟩ ⟨g2, g4⟩
      have hwm : IntKind.i64.wrap (z * cw) = z * cw := wrap_in (by omega) (by omega)
      obtain ⟨ix, hix⟩ : ∃ i : Nat, (i : Int) = z * cw + u := ⟨(z * cw + u).toNat, by omega⟩
      have hws : IntKind.i64.wrap (z * cw + u) = (ix : Int) := by rw [hix]; exact wrap_in (by clear hwm; omega) (by clear hwm; omega)
      have hixl : ix < pix.length := by clear hwm hws; omega
      obtain ⟨b, of, cc, p, hsv, _, _, _, hpj, _, m0, m1, m2, m3⟩ := pix_at (HV.out _ H3.out.below) hixl
      simp only [Value.slice.injEq] at hsv
      obtain ⟨rfl, hnn, rfl⟩ := hsv
      clear hnn
      have hRp : R = p := by
        rw [HR2.out, if_neg (by clear hwm hws; omega), ← hix, Int.toNat_natCast]
        simp [hpj]
      subst hRp
      obtain ⟨q0, q1, q2, q3⟩ := R
      dsimp only at m0 m1 m2 m3
      have hi0 : (0 : Int) ≤ (ix : Int) := by clear hwm hws; omega
      have hi1 : (ix : Int) < (vn : Int) := by clear hwm hws; rw [HP.out]; omega
      have hi1' : ix < vn := by clear hwm hws; omega
      have e0 := H3.out.cell 0 rfl 0 rfl
      have e1 := H3.out.cell 0 rfl 1 rfl
      have e2 := H3.out.cell 0 rfl 2 rfl
      have e9 := H3.out.cell 0 rfl 9 rfl
      have e10 := H3.out.cell 0 rfl 10 rfl
      have e11 := H3.out.cell 0 rfl 11 rfl
      have e12 := H3.out.cell 0 rfl 12 rfl
      clear hn hix hixl hpj ix1 ix2 ix3 HE HR2 hpl hpm
      go_wp2_with fail
      refine (HFR.out _).mono ?_; rintro e W4 ⟨rfl, rfl⟩
      go_wp2_with fail
      have HF := H3.out.set4 1 rfl (.int .u8 q0) (.int .u8 q1) (.int .u8 q2) (.int .u8 q3)
      exact ret_px (g := w.heap.size + 1) (p := ⟨q0, q1, q2, q3⟩) rfl rfl (HF.box 1 rfl) rfl ⟨rfl, HF.below⟩
set_option maxRecDepth 8000 in
set_option maxHeartbeats 12800000 in
theorem rpixel_c (B : Nat) (c : Ct) (v : Value) (x y : Int) (w : World) (hc : CtOk c) (hv : SlOf RPx 4 (· < B) w v c.pix) (hB : B ≤ w.heap.size) (hx : -16777216 ≤ x ∧ x ≤ 16777216) (hy : -16777216 ≤ y ∧ y ≤ 16777216) :
    Calls Tryd.prog 8 #[ctv c v, .int .i64 x, .int .i64 y] w (PPost w (pxv (pixR c x y))) := by
  have HV0 := hv
  obtain ⟨va, vn, vm, hvf⟩ := sl_form hv
  subst hvf
  have hvn : vn = c.pix.length ∧ vn ≤ vm ∧ vm ≤ maxLen := by
    obtain ⟨a, cc, h1, h2, h3, _⟩ := hv
    simp only [Value.slice.injEq] at h1
    obtain ⟨_, h4, h5⟩ := h1
    subst h5
    exact ⟨h4, by omega, h3⟩
  obtain ⟨R, hR⟩ : ∃ R, R = pixR c x y := ⟨_, rfl⟩
  have HR : Hid (R = pixR c x y ∧ CtOk c) := ⟨hR, hc⟩
  have HCt : Hid (∀ W, Calls Tryd.prog 16 #[ctv c (.slice va vn vm)] W (PPost W (rv (ctR c)))) := fun W => content_c c _ W hc ⟨_, _, _, rfl⟩
  rw [← hR]
  have hk := hc.kind
  obtain ⟨kind, ⟨x0, y0, x1, y1⟩, ⟨p0, p1, p2, p3⟩, cw, ch, turn, pix⟩ := c
  dsimp only at hk
  have HV : Hid (∀ W, Below w.heap.size w W → SlOf RPx 4 (· < B) W (.slice va vn vm) pix) := fun W hb => HV0.same RPx.ok (Same.of_below hb fun b (hbl : b < B) => Nat.lt_of_lt_of_le hbl hB)
  have HP : Hid (vn = pix.length) := hvn.1
  obtain ⟨hvq, hvm, hvmx⟩ := hvn
  clear hvq
  unfold maxLen at hvmx
  have HW : Hid (Bag w ((w.alloc (.cells #[.int .i64 kind, .int .i64 x0, .int .i64 y0, .int .i64 x1, .int .i64 y1, .int .u8 p0, .int .u8 p1, .int .u8 p2, .int .u8 p3, .int .i64 cw, .int .i64 ch, .int .i64 turn, .slice va vn vm] 30)).alloc (.cells #[.int .u8 0, .int .u8 0, .int .u8 0, .int .u8 0] 27)) [(w.heap.size, [.int .i64 kind, .int .i64 x0, .int .i64 y0, .int .i64 x1, .int .i64 y1, .int .u8 p0, .int .u8 p1, .int .u8 p2, .int .u8 p3, .int .i64 cw, .int .i64 ch, .int .i64 turn, .slice va vn vm]), (w.heap.size + 1, [.int .u8 0, .int .u8 0, .int .u8 0, .int .u8 0])]) := bag2 w [.int .i64 kind, .int .i64 x0, .int .i64 y0, .int .i64 x1, .int .i64 y1, .int .u8 p0, .int .u8 p1, .int .u8 p2, .int .u8 p3, .int .i64 cw, .int .i64 ch, .int .i64 turn, .slice va vn vm] [.int .u8 0, .int .u8 0, .int .u8 0, .int .u8 0] _ _
  obtain ⟨hx1, hx2⟩ := hx
  obtain ⟨hy1, hy2⟩ := hy
  clear hc HV0 hv hR hB
  clear HCt
  rcases hk with rfl | rfl | rfl
  · obtain rfl : R = Px.zero := HR.out.1
    go_enter Tryd.func8, Tryd.ntmps8
    go_wp2_with fail
    exact ret_px (g := w.heap.size + 1) (p := ⟨0, 0, 0, 0⟩) rfl rfl (HW.out.box 1 rfl) rfl ⟨rfl, HW.out.below⟩
  · obtain ⟨h, hh⟩ : ∃ h, h = hasR ⟨x0, y0, x1, y1⟩ x y := ⟨_, rfl⟩
    have HH : Hid (∀ W, Calls Tryd.prog 18 #[.agg #[.int .i64 x0, .int .i64 y0, .int .i64 x1, .int .i64 y1], .int .i64 x, .int .i64 y] W (PPost W (.bool h))) := fun W => by rw [hh]; exact has03_c ⟨x0, y0, x1, y1⟩ x y W
    have HE : Hid (R = if h = true then ⟨p0, p1, p2, p3⟩ else Px.zero) := by
      have : R = if h = true then ⟨p0, p1, p2, p3⟩ else Px.zero := by rw [hh]; exact HR.out.1
      exact this
    clear HR hh
    go_enter Tryd.func8, Tryd.ntmps8
    go_wp2_with fail
    refine (HH.out _).mono ?_; rintro e W3 ⟨rfl, hb3⟩
    have H3 := Lib.hid (HW.out.call hb3)
    clear hb3 HW HH
    have r0 : World.cell? _ _ = some (Value.int .u8 0) := H3.out.cell 1 rfl 0 rfl
    have r1 : World.cell? _ _ = some (Value.int .u8 0) := H3.out.cell 1 rfl 1 rfl
    have r2 : World.cell? _ _ = some (Value.int .u8 0) := H3.out.cell 1 rfl 2 rfl
    have r3 : World.cell? _ _ = some (Value.int .u8 0) := H3.out.cell 1 rfl 3 rfl
    have f0 := H3.out.frozen 1 rfl 0
    have f1 := H3.out.frozen 1 rfl 1
    have f2 := H3.out.frozen 1 rfl 2
    have f3 := H3.out.frozen 1 rfl 3
    have e0 := H3.out.cell 0 rfl 0 rfl
    have e5 := H3.out.cell 0 rfl 5 rfl
    have e6 := H3.out.cell 0 rfl 6 rfl
    have e7 := H3.out.cell 0 rfl 7 rfl
    have e8 := H3.out.cell 0 rfl 8 rfl
    cases h with
    | false =>
      obtain rfl : R = Px.zero := HE.out
      go_wp2_with fail
      have HF := H3.out.set4 1 rfl (.int .u8 0) (.int .u8 0) (.int .u8 0) (.int .u8 0)
      exact ret_px (g := w.heap.size + 1) (p := ⟨0, 0, 0, 0⟩) rfl rfl (HF.box 1 rfl) rfl ⟨rfl, HF.below⟩
    | true =>
      obtain rfl : R = ⟨p0, p1, p2, p3⟩ := HE.out
      go_wp2_with fail
      have HF := H3.out.set4 1 rfl (.int .u8 p0) (.int .u8 p1) (.int .u8 p2) (.int .u8 p3)
      exact ret_px (g := w.heap.size + 1) (p := ⟨p0, p1, p2, p3⟩) rfl rfl (HF.box 1 rfl) rfl ⟨rfl, HF.below⟩
  · 
    obtain ⟨⟨hw1, hw2⟩, ⟨hh1, hh2⟩, hpl, hpm, ⟨ht1, ht2⟩, hb0, hb1⟩ := HR.out.2.pic rfl
    dsimp only at hw1 hw2 hh1 hh2 hpl hpm ht1 ht2 hb0 hb1
    unfold Nc at hb0 hb1
    obtain ⟨hb0a, hb0b⟩ := hb0
    obtain ⟨hb1a, hb1b⟩ := hb1
    obtain ⟨q, hq⟩ : ∃ q, q = Vc.qn turn := ⟨_, rfl⟩
    obtain ⟨u, hu⟩ : ∃ u, u = Vc.fx q cw ch (x - x0) (y - y0) := ⟨_, rfl⟩
    obtain ⟨z, hz⟩ : ∃ u, u = Vc.fy q cw ch (x - x0) (y - y0) := ⟨_, rfl⟩
    have HIN : Hid ((0 ≤ x - x0 ∧ x - x0 < Vc.sx q cw ch ∧ 0 ≤ y - y0 ∧ y - y0 < Vc.sy q cw ch) ↔ ¬ (u < 0 ∨ z < 0 ∨ cw ≤ u ∨ ch ≤ z)) := by rw [hu, hz]; exact in_turned q cw ch (x - x0) (y - y0)
    have HFR : Hid (∀ W, Calls Tryd.prog 19 #[.int .i64 cw, .int .i64 ch, .int .i64 turn, .int .i64 (x - x0), .int .i64 (y - y0)] W (Vc.IPost W u z)) := fun W => by
      rw [hu, hz, hq]
      exact Vc.rfrom_c cw ch turn (x - x0) (y - y0) W (by omega) (by omega) (by omega) (by omega) (by unfold Vc.Nr; omega) (by unfold Vc.Nr; omega)
    have HR2 : Hid (R = if u < 0 ∨ z < 0 ∨ cw ≤ u ∨ ch ≤ z then Px.zero else pix.getD (z * cw + u).toNat Px.zero) := by
      have : R = if u < 0 ∨ z < 0 ∨ cw ≤ u ∨ ch ≤ z then Px.zero else pix.getD (z * cw + u).toNat Px.zero := by rw [HR.out.1, hu, hz, hq]; rfl
      exact this
    clear hu hz hq HIN HR
    have BZ : Hid (∀ (P : Prop), P = P) := fun _ => rfl
    by_cases t0 : u < 0
    · have d0 : decide (u < 0) = true := decide_eq_true t0
      obtain rfl : R = Px.zero := HR2.out.trans (if_pos (.inl t0))
      clear t0 hpl hpm
      go_enter Tryd.func8, Tryd.ntmps8
      go_wp2_with fail
      refine (HFR.out _).mono ?_; rintro e W4 ⟨rfl, rfl⟩
      go_wp2_with fail
      exact ret_px (g := w.heap.size + 1) (p := ⟨0, 0, 0, 0⟩) rfl rfl (HW.out.box 1 rfl) rfl ⟨rfl, HW.out.below⟩
    by_cases t1 : z < 0
    · have d0 : decide (u < 0) = false := decide_eq_false t0
      have d1 : decide (z < 0) = true := decide_eq_true t1
      obtain rfl : R = Px.zero := HR2.out.trans (if_pos (.inr (.inl t1)))
      clear t0 t1 hpl hpm
      go_enter Tryd.func8, Tryd.ntmps8
      go_wp2_with fail
      refine (HFR.out _).mono ?_; rintro e W4 ⟨rfl, rfl⟩
      go_wp2_with fail
      exact ret_px (g := w.heap.size + 1) (p := ⟨0, 0, 0, 0⟩) rfl rfl (HW.out.box 1 rfl) rfl ⟨rfl, HW.out.below⟩
    by_cases t2 : cw ≤ u
    · have d0 : decide (u < 0) = false := decide_eq_false t0
      have d1 : decide (z < 0) = false := decide_eq_false t1
      have d2 : decide (cw ≤ u) = true := decide_eq_true t2
      obtain rfl : R = Px.zero := HR2.out.trans (if_pos (.inr (.inr (.inl t2))))
      clear t0 t1 t2 hpl hpm
      go_enter Tryd.func8, Tryd.ntmps8
      go_wp2_with fail
      refine (HFR.out _).mono ?_; rintro e W4 ⟨rfl, rfl⟩
      go_wp2_with fail
      exact ret_px (g := w.heap.size + 1) (p := ⟨0, 0, 0, 0⟩) rfl rfl (HW.out.box 1 rfl) rfl ⟨rfl, HW.out.below⟩
    by_cases t3 : ch ≤ z
    · have d0 : decide (u < 0) = false := decide_eq_false t0
      have d1 : decide (z < 0) = false := decide_eq_false t1
      have d2 : decide (cw ≤ u) = false := decide_eq_false t2
      have d3 : decide (ch ≤ z) = true := decide_eq_true t3
      obtain rfl : R = Px.zero := HR2.out.trans (if_pos (.inr (.inr (.inr t3))))
      clear t0 t1 t2 t3 hpl hpm
      go_enter Tryd.func8, Tryd.ntmps8
      go_wp2_with fail
      refine (HFR.out _).mono ?_; rintro e W4 ⟨rfl, rfl⟩
      go_wp2_with fail
      exact ret_px (g := w.heap.size + 1) (p := ⟨0, 0, 0, 0⟩) rfl rfl (HW.out.box 1 rfl) rfl ⟨rfl, HW.out.below⟩
    have d0 : decide (u < 0) = false := decide_eq_false t0
    have d1 : decide (z < 0) = false := decide_eq_false t1
    have d2 : decide (cw ≤ u) = false := decide_eq_false t2
    have d3 : decide (ch ≤ z) = false := decide_eq_false t3
    have hn : ¬ (u < 0 ∨ z < 0 ∨ cw ≤ u ∨ ch ≤ z) := by omega
    clear BZ
    obtain ⟨g1, g2, g3, g4⟩ : 0 ≤ u ∧ 0 ≤ z ∧ u < cw ∧ z < ch := by omega
    obtain ⟨ix1, ix2, ix3⟩ := idx_lt (u := u) (v := z) (w := cw) (h := ch) ⟨g1, g3⟩ ⟨g2, g4⟩
    have hwm : IntKind.i64.wrap (z * cw) = z * cw := wrap_in (by omega) (by omega)
    obtain ⟨ix, hix⟩ : ∃ i : Nat, (i : Int) = z * cw + u := ⟨(z * cw + u).toNat, by omega⟩
    have hws : IntKind.i64.wrap (z * cw + u) = (ix : Int) := by rw [hix]; exact wrap_in (by clear hwm; omega) (by clear hwm; omega)
    have hixl : ix < pix.length := by clear hwm hws; omega
    obtain ⟨b, of, cc, p, hsv, _, _, _, hpj, _, m0, m1, m2, m3⟩ := pix_at (HV.out _ HW.out.below) hixl
    simp only [Value.slice.injEq] at hsv
    obtain ⟨rfl, hnn, rfl⟩ := hsv
    clear hnn
    have hRp : R = p := by
      rw [HR2.out, if_neg (by clear hwm hws; omega), ← hix, Int.toNat_natCast]
      simp [hpj]
    subst hRp
    obtain ⟨q0, q1, q2, q3⟩ := R
    dsimp only at m0 m1 m2 m3
    have hi0 : (0 : Int) ≤ (ix : Int) := by clear hwm hws; omega
    have hi1 : (ix : Int) < (vn : Int) := by clear hwm hws; rw [HP.out]; omega
    have hi1' : ix < vn := by clear hwm hws; omega
    clear hn hix hixl hpj ix1 ix2 ix3 HR2 t0 t1 t2 t3 hpl hpm
    go_enter Tryd.func8, Tryd.ntmps8
    go_wp2_with fail
    refine (HFR.out _).mono ?_; rintro e W4 ⟨rfl, rfl⟩
    generalize ((w.alloc (.cells #[.int .i64 2, .int .i64 x0, .int .i64 y0, .int .i64 x1, .int .i64 y1, .int .u8 p0, .int .u8 p1, .int .u8 p2, .int .u8 p3, .int .i64 cw, .int .i64 ch, .int .i64 turn, .slice (some ⟨b, of, none⟩) vn vm] 30)).alloc (.cells #[.int .u8 0, .int .u8 0, .int .u8 0, .int .u8 0] 27)) = W1 at *
    have e9 := HW.out.cell 0 rfl 9 rfl
    have e10 := HW.out.cell 0 rfl 10 rfl
    have e12 := HW.out.cell 0 rfl 12 rfl
    have r0 : World.cell? _ _ = some (Value.int .u8 0) := HW.out.cell 1 rfl 0 rfl
    have r1 : World.cell? _ _ = some (Value.int .u8 0) := HW.out.cell 1 rfl 1 rfl
    have r2 : World.cell? _ _ = some (Value.int .u8 0) := HW.out.cell 1 rfl 2 rfl
    have r3 : World.cell? _ _ = some (Value.int .u8 0) := HW.out.cell 1 rfl 3 rfl
    have f0 := HW.out.frozen 1 rfl 0
    have f1 := HW.out.frozen 1 rfl 1
    have f2 := HW.out.frozen 1 rfl 2
    have f3 := HW.out.frozen 1 rfl 3
    go_wp2_with fail
    have HF := HW.out.set4 1 rfl (.int .u8 q0) (.int .u8 q1) (.int .u8 q2) (.int .u8 q3)
    exact ret_px (g := w.heap.size + 1) (p := ⟨q0, q1, q2, q3⟩) rfl rfl (HF.box 1 rfl) rfl ⟨rfl, HF.below⟩
end Go.Proofs.YtgodhpampaleeaaDoor
