/- Texts joined: XEh. -/
import Derived.Test.YtgodhpampaleeaaDoorEg
set_option maxRecDepth 4000
/- Layer 24: extent.Content, Area, below. (Printed by mk_eh.py.) -/
namespace Go.Proofs.YtgodhpampaleeaaDoor
open Go.RowKit Go.Bx Go.Od Go.Hp
attribute [local go_sem ↓] Go.wp_at_zero Go.wp_at_succ
set_option linter.unusedVariables false

abbrev ctv (c : Ct) (v : Value) : Value := .agg #[.int .i64 c.kind, .int .i64 c.box.x0, .int .i64 c.box.y0, .int .i64 c.box.x1, .int .i64 c.box.y1, .int .u8 c.px.r, .int .u8 c.px.g, .int .u8 c.px.b, .int .u8 c.px.a, .int .i64 c.w, .int .i64 c.h, .int .i64 c.turn, v]
abbrev lkv (k : Lk) (pv fv bv : Value) : Value := .agg #[.int .i64 k.dx, .int .i64 k.dy, .bool k.hasC, .int .i64 k.clip.x0, .int .i64 k.clip.y0, .int .i64 k.clip.x1, .int .i64 k.clip.y1, .int .i64 k.opa, .int .i64 k.mode, .int .i64 k.ct.kind, .int .i64 k.ct.box.x0, .int .i64 k.ct.box.y0, .int .i64 k.ct.box.x1, .int .i64 k.ct.box.y1, .int .u8 k.ct.px.r, .int .u8 k.ct.px.g, .int .u8 k.ct.px.b, .int .u8 k.ct.px.a, .int .i64 k.ct.w, .int .i64 k.ct.h, .int .i64 k.ct.turn, pv, .bool k.hasF, fv, .int .i64 k.fil.out, .bool k.hasB, bv, .int .i64 k.bak.out]
abbrev lyv (i0 i1 : Int) (k : Lk) (pv fv bv kv : Value) : Value := .agg #[.int .i64 i0, .int .i64 i1, .int .i64 k.dx, .int .i64 k.dy, .bool k.hasC, .int .i64 k.clip.x0, .int .i64 k.clip.y0, .int .i64 k.clip.x1, .int .i64 k.clip.y1, .int .i64 k.opa, .int .i64 k.mode, .int .i64 k.ct.kind, .int .i64 k.ct.box.x0, .int .i64 k.ct.box.y0, .int .i64 k.ct.box.x1, .int .i64 k.ct.box.y1, .int .u8 k.ct.px.r, .int .u8 k.ct.px.g, .int .u8 k.ct.px.b, .int .u8 k.ct.px.a, .int .i64 k.ct.w, .int .i64 k.ct.h, .int .i64 k.ct.turn, pv, .bool k.hasF, fv, .int .i64 k.fil.out, .bool k.hasB, bv, .int .i64 k.bak.out, kv]
theorem ct_cells {W : World} {b : Nat} {c : Ct} {v : Value} (h : Box W b (ctc c v)) : W.cell? ⟨b, 0, none⟩ = some (.int .i64 c.kind) ∧ W.cell? ⟨b, 1, none⟩ = some (.int .i64 c.box.x0) ∧ W.cell? ⟨b, 2, none⟩ = some (.int .i64 c.box.y0) ∧ W.cell? ⟨b, 3, none⟩ = some (.int .i64 c.box.x1) ∧ W.cell? ⟨b, 4, none⟩ = some (.int .i64 c.box.y1) ∧ W.cell? ⟨b, 5, none⟩ = some (.int .u8 c.px.r) ∧ W.cell? ⟨b, 6, none⟩ = some (.int .u8 c.px.g) ∧ W.cell? ⟨b, 7, none⟩ = some (.int .u8 c.px.b) ∧ W.cell? ⟨b, 8, none⟩ = some (.int .u8 c.px.a) ∧ W.cell? ⟨b, 9, none⟩ = some (.int .i64 c.w) ∧ W.cell? ⟨b, 10, none⟩ = some (.int .i64 c.h) ∧ W.cell? ⟨b, 11, none⟩ = some (.int .i64 c.turn) ∧ W.cell? ⟨b, 12, none⟩ = some (v) :=
  ⟨h.cell 0 rfl, h.cell 1 rfl, h.cell 2 rfl, h.cell 3 rfl, h.cell 4 rfl, h.cell 5 rfl, h.cell 6 rfl, h.cell 7 rfl, h.cell 8 rfl, h.cell 9 rfl, h.cell 10 rfl, h.cell 11 rfl, h.cell 12 rfl⟩
theorem lk_cells {W : World} {b : Nat} {k : Lk} {pv fv bv : Value} (h : Box W b (lkc k pv fv bv)) : W.cell? ⟨b, 0, none⟩ = some (.int .i64 k.dx) ∧ W.cell? ⟨b, 1, none⟩ = some (.int .i64 k.dy) ∧ W.cell? ⟨b, 2, none⟩ = some (.bool k.hasC) ∧ W.cell? ⟨b, 3, none⟩ = some (.int .i64 k.clip.x0) ∧ W.cell? ⟨b, 4, none⟩ = some (.int .i64 k.clip.y0) ∧ W.cell? ⟨b, 5, none⟩ = some (.int .i64 k.clip.x1) ∧ W.cell? ⟨b, 6, none⟩ = some (.int .i64 k.clip.y1) ∧ W.cell? ⟨b, 7, none⟩ = some (.int .i64 k.opa) ∧ W.cell? ⟨b, 8, none⟩ = some (.int .i64 k.mode) ∧ W.cell? ⟨b, 9, none⟩ = some (.int .i64 k.ct.kind) ∧ W.cell? ⟨b, 10, none⟩ = some (.int .i64 k.ct.box.x0) ∧ W.cell? ⟨b, 11, none⟩ = some (.int .i64 k.ct.box.y0) ∧ W.cell? ⟨b, 12, none⟩ = some (.int .i64 k.ct.box.x1) ∧ W.cell? ⟨b, 13, none⟩ = some (.int .i64 k.ct.box.y1) ∧ W.cell? ⟨b, 14, none⟩ = some (.int .u8 k.ct.px.r) ∧ W.cell? ⟨b, 15, none⟩ = some (.int .u8 k.ct.px.g) ∧ W.cell? ⟨b, 16, none⟩ = some (.int .u8 k.ct.px.b) ∧ W.cell? ⟨b, 17, none⟩ = some (.int .u8 k.ct.px.a) ∧ W.cell? ⟨b, 18, none⟩ = some (.int .i64 k.ct.w) ∧ W.cell? ⟨b, 19, none⟩ = some (.int .i64 k.ct.h) ∧ W.cell? ⟨b, 20, none⟩ = some (.int .i64 k.ct.turn) ∧ W.cell? ⟨b, 21, none⟩ = some (pv) ∧ W.cell? ⟨b, 22, none⟩ = some (.bool k.hasF) ∧ W.cell? ⟨b, 23, none⟩ = some (fv) ∧ W.cell? ⟨b, 24, none⟩ = some (.int .i64 k.fil.out) ∧ W.cell? ⟨b, 25, none⟩ = some (.bool k.hasB) ∧ W.cell? ⟨b, 26, none⟩ = some (bv) ∧ W.cell? ⟨b, 27, none⟩ = some (.int .i64 k.bak.out) :=
  ⟨h.cell 0 rfl, h.cell 1 rfl, h.cell 2 rfl, h.cell 3 rfl, h.cell 4 rfl, h.cell 5 rfl, h.cell 6 rfl, h.cell 7 rfl, h.cell 8 rfl, h.cell 9 rfl, h.cell 10 rfl, h.cell 11 rfl, h.cell 12 rfl, h.cell 13 rfl, h.cell 14 rfl, h.cell 15 rfl, h.cell 16 rfl, h.cell 17 rfl, h.cell 18 rfl, h.cell 19 rfl, h.cell 20 rfl, h.cell 21 rfl, h.cell 22 rfl, h.cell 23 rfl, h.cell 24 rfl, h.cell 25 rfl, h.cell 26 rfl, h.cell 27 rfl⟩
theorem ly_cells {W : World} {b : Nat} {i0 i1 : Int} {k : Lk} {pv fv bv kv : Value} (h : Box W b (lyc i0 i1 k pv fv bv kv)) : W.cell? ⟨b, 0, none⟩ = some (.int .i64 i0) ∧ W.cell? ⟨b, 1, none⟩ = some (.int .i64 i1) ∧ W.cell? ⟨b, 2, none⟩ = some (.int .i64 k.dx) ∧ W.cell? ⟨b, 3, none⟩ = some (.int .i64 k.dy) ∧ W.cell? ⟨b, 4, none⟩ = some (.bool k.hasC) ∧ W.cell? ⟨b, 5, none⟩ = some (.int .i64 k.clip.x0) ∧ W.cell? ⟨b, 6, none⟩ = some (.int .i64 k.clip.y0) ∧ W.cell? ⟨b, 7, none⟩ = some (.int .i64 k.clip.x1) ∧ W.cell? ⟨b, 8, none⟩ = some (.int .i64 k.clip.y1) ∧ W.cell? ⟨b, 9, none⟩ = some (.int .i64 k.opa) ∧ W.cell? ⟨b, 10, none⟩ = some (.int .i64 k.mode) ∧ W.cell? ⟨b, 11, none⟩ = some (.int .i64 k.ct.kind) ∧ W.cell? ⟨b, 12, none⟩ = some (.int .i64 k.ct.box.x0) ∧ W.cell? ⟨b, 13, none⟩ = some (.int .i64 k.ct.box.y0) ∧ W.cell? ⟨b, 14, none⟩ = some (.int .i64 k.ct.box.x1) ∧ W.cell? ⟨b, 15, none⟩ = some (.int .i64 k.ct.box.y1) ∧ W.cell? ⟨b, 16, none⟩ = some (.int .u8 k.ct.px.r) ∧ W.cell? ⟨b, 17, none⟩ = some (.int .u8 k.ct.px.g) ∧ W.cell? ⟨b, 18, none⟩ = some (.int .u8 k.ct.px.b) ∧ W.cell? ⟨b, 19, none⟩ = some (.int .u8 k.ct.px.a) ∧ W.cell? ⟨b, 20, none⟩ = some (.int .i64 k.ct.w) ∧ W.cell? ⟨b, 21, none⟩ = some (.int .i64 k.ct.h) ∧ W.cell? ⟨b, 22, none⟩ = some (.int .i64 k.ct.turn) ∧ W.cell? ⟨b, 23, none⟩ = some (pv) ∧ W.cell? ⟨b, 24, none⟩ = some (.bool k.hasF) ∧ W.cell? ⟨b, 25, none⟩ = some (fv) ∧ W.cell? ⟨b, 26, none⟩ = some (.int .i64 k.fil.out) ∧ W.cell? ⟨b, 27, none⟩ = some (.bool k.hasB) ∧ W.cell? ⟨b, 28, none⟩ = some (bv) ∧ W.cell? ⟨b, 29, none⟩ = some (.int .i64 k.bak.out) ∧ W.cell? ⟨b, 30, none⟩ = some (kv) :=
  ⟨h.cell 0 rfl, h.cell 1 rfl, h.cell 2 rfl, h.cell 3 rfl, h.cell 4 rfl, h.cell 5 rfl, h.cell 6 rfl, h.cell 7 rfl, h.cell 8 rfl, h.cell 9 rfl, h.cell 10 rfl, h.cell 11 rfl, h.cell 12 rfl, h.cell 13 rfl, h.cell 14 rfl, h.cell 15 rfl, h.cell 16 rfl, h.cell 17 rfl, h.cell 18 rfl, h.cell 19 rfl, h.cell 20 rfl, h.cell 21 rfl, h.cell 22 rfl, h.cell 23 rfl, h.cell 24 rfl, h.cell 25 rfl, h.cell 26 rfl, h.cell 27 rfl, h.cell 28 rfl, h.cell 29 rfl, h.cell 30 rfl⟩
set_option maxRecDepth 8000 in
set_option maxHeartbeats 6400000 in
theorem content_c (c : Ct) (v : Value) (w : World) (hc : CtOk c) (hv : ∃ a n m, v = .slice a n m) : Calls Tryd.prog 16 #[ctv c v] w (PPost w (rv (ctR c))) := by
  obtain ⟨va, vn, vm, rfl⟩ := hv
  obtain ⟨R, hR⟩ : ∃ R, R = ctR c := ⟨_, rfl⟩
  rw [← hR]
  have HC : Hid (CtOk c ∧ R = ctR c) := ⟨hc, hR⟩
  have hk := hc.kind
  obtain ⟨kind, ⟨x0, y0, x1, y1⟩, ⟨p0, p1, p2, p3⟩, cw, ch, turn, pix⟩ := c
  dsimp only at hk
  have H0 : Hid (Bag w ((w.alloc (.cells #[.int .i64 kind, .int .i64 x0, .int .i64 y0, .int .i64 x1, .int .i64 y1, .int .u8 p0, .int .u8 p1, .int .u8 p2, .int .u8 p3, .int .i64 cw, .int .i64 ch, .int .i64 turn, .slice va vn vm] 30)).alloc (.cells (cs4 0 0 0 0) 25)) [(w.heap.size, ctc ⟨kind, ⟨x0, y0, x1, y1⟩, ⟨p0, p1, p2, p3⟩, cw, ch, turn, pix⟩ (.slice va vn vm)), (w.heap.size + 1, cl4 ⟨0, 0, 0, 0⟩)]) := bag2 w (ctc ⟨kind, ⟨x0, y0, x1, y1⟩, ⟨p0, p1, p2, p3⟩, cw, ch, turn, pix⟩ (.slice va vn vm)) (cl4 ⟨0, 0, 0, 0⟩) _ _
  clear hc hR
  have hW : Hid True := trivial
  rcases hk with rfl | rfl | rfl
  · obtain rfl : R = Rc.zero := HC.out.2
    go_enter Tryd.func16, Tryd.ntmps16
    go_wp2_with fail
    exact ret_rect (g := w.heap.size + 1) (r := Rc.zero) rfl rfl (H0.out.box 1 rfl) rfl ⟨rfl, H0.out.below⟩
  · have hq := fun W => neqPx ⟨p0, p1, p2, p3⟩ Px.zero W
    have hR1 : R = if pxEq ⟨p0, p1, p2, p3⟩ Px.zero = true then Rc.zero else someR ⟨x0, y0, x1, y1⟩ := HC.out.2
    have HR1 : Hid (R = if pxEq ⟨p0, p1, p2, p3⟩ Px.zero = true then Rc.zero else someR ⟨x0, y0, x1, y1⟩) := Lib.hid hR1
    clear hR1
    obtain ⟨pe, hpe⟩ : ∃ e, e = pxEq ⟨p0, p1, p2, p3⟩ Px.zero := ⟨_, rfl⟩
    rw [← hpe] at HR1 hq
    have HPE : Hid (pe = pxEq ⟨p0, p1, p2, p3⟩ Px.zero) := Lib.hid hpe
    clear hpe
    cases pe with
    | true =>
      obtain rfl : R = Rc.zero := HR1.out
      clear HR1
      have hq' : ∀ W : World, (binOp .neq 27 (.agg #[.int .u8 p0, .int .u8 p1, .int .u8 p2, .int .u8 p3]) (.agg #[.int .u8 0, .int .u8 0, .int .u8 0, .int .u8 0])).run Tryd.prog W = .ok (.bool false) W := hq
      clear hq
      go_enter Tryd.func16, Tryd.ntmps16
      go_wp2_with fail
      exact ret_rect (g := w.heap.size + 1) (r := Rc.zero) rfl rfl (H0.out.box 1 rfl) rfl ⟨rfl, H0.out.below⟩
    | false =>
      have hq' : ∀ W : World, (binOp .neq 27 (.agg #[.int .u8 p0, .int .u8 p1, .int .u8 p2, .int .u8 p3]) (.agg #[.int .u8 0, .int .u8 0, .int .u8 0, .int .u8 0])).run Tryd.prog W = .ok (.bool true) W := hq
      clear hq
      have HJ : Hid (∀ W, Calls Tryd.prog 21 #[rv ⟨x0, y0, x1, y1⟩, rv ⟨0, 0, 0, 0⟩] W (PPost W (rv R))) := fun W => by rw [HR1.out]; exact join_c _ _ W
      clear HR1
      go_enter Tryd.func16, Tryd.ntmps16
      go_wp2_with fail
      generalize ((w.alloc (.cells #[.int .i64 1, .int .i64 x0, .int .i64 y0, .int .i64 x1, .int .i64 y1, .int .u8 p0, .int .u8 p1, .int .u8 p2, .int .u8 p3, .int .i64 cw, .int .i64 ch, .int .i64 turn, .slice va vn vm] 30)).alloc (.cells (cs4 0 0 0 0) 25)) = W1 at *
      refine (HJ.out W1).mono ?_; rintro e W2 ⟨rfl, hb2⟩
      have H2 : Hid (Bag w W2 [(w.heap.size, ctc ⟨1, ⟨x0, y0, x1, y1⟩, ⟨p0, p1, p2, p3⟩, cw, ch, turn, pix⟩ (.slice va vn vm)), (w.heap.size + 1, cl4 ⟨0, 0, 0, 0⟩)]) := H0.out.call hb2
      clear hb2 H0 hq'
      obtain ⟨r0, r1, r2, r3⟩ := box4 (H2.out.box 1 rfl)
      have f0 := H2.out.frozen 1 rfl 0
      have f1 := H2.out.frozen 1 rfl 1
      have f2 := H2.out.frozen 1 rfl 2
      have f3 := H2.out.frozen 1 rfl 3
      go_wp2_with fail
      have HF := H2.out.set4 1 rfl (.int .i64 R.x0) (.int .i64 R.y0) (.int .i64 R.x1) (.int .i64 R.y1)
      exact ret_rect (g := w.heap.size + 1) (r := R) rfl rfl (HF.box 1 rfl) rfl ⟨rfl, HF.below⟩
  · obtain ⟨hw, hh, _, _, ht, h3, h4⟩ := HC.out.1.pic rfl
    dsimp only at hw hh ht h3 h4
    have hR1 : R = ⟨x0, y0, x0 + Vc.sx (Vc.qn turn) cw ch, y0 + Vc.sy (Vc.qn turn) cw ch⟩ := HC.out.2
    obtain ⟨h5, h6⟩ := sx_bd (Vc.qn turn) hw hh
    have HS : Hid (∀ W, Calls Tryd.prog 31 #[.int .i64 cw, .int .i64 ch, .int .i64 turn] W (Vc.IPost W (Vc.sx (Vc.qn turn) cw ch) (Vc.sy (Vc.qn turn) cw ch))) := fun W => Vc.size_c cw ch turn W (by omega) (by omega) (by omega) (by omega)
    generalize Vc.sx (Vc.qn turn) cw ch = sw at *
    generalize Vc.sy (Vc.qn turn) cw ch = sh at *
    obtain ⟨a, ha⟩ : ∃ a, a = x0 + sw := ⟨_, rfl⟩
    unfold Nc at h3 h4
    have HR1 : Hid (R = ⟨x0, y0, x0 + sw, y0 + sh⟩) := Lib.hid hR1
    clear hR1 ha HC
    go_enter Tryd.func16, Tryd.ntmps16
    go_wp2_with fail
    refine (HS.out _).mono ?_; rintro e W2 ⟨rfl, rfl⟩
    clear HS
    generalize ((w.alloc (.cells #[.int .i64 2, .int .i64 x0, .int .i64 y0, .int .i64 x1, .int .i64 y1, .int .u8 p0, .int .u8 p1, .int .u8 p2, .int .u8 p3, .int .i64 cw, .int .i64 ch, .int .i64 turn, .slice va vn vm] 30)).alloc (.cells (cs4 0 0 0 0) 25)) = W1 at *
    have e0 : W1.cell? ⟨w.heap.size, 1, none⟩ = some (.int .i64 x0) := H0.out.cell 0 rfl 1 rfl
    have e1 : W1.cell? ⟨w.heap.size, 2, none⟩ = some (.int .i64 y0) := H0.out.cell 0 rfl 2 rfl
    obtain ⟨r0, r1, r2, r3⟩ := box4 (H0.out.box 1 rfl)
    have f0 := H0.out.frozen 1 rfl 0
    have f1 := H0.out.frozen 1 rfl 1
    have f2 := H0.out.frozen 1 rfl 2
    have f3 := H0.out.frozen 1 rfl 3
    go_wp2_with fail
    have HF := H0.out.set4 1 rfl (.int .i64 x0) (.int .i64 y0) (.int .i64 (x0 + sw)) (.int .i64 (y0 + sh))
    exact ret_rect (g := w.heap.size + 1) (r := ⟨x0, y0, x0 + sw, y0 + sh⟩) rfl rfl (HF.box 1 rfl) rfl ⟨by rw [HR1.out], HF.below⟩
set_option maxRecDepth 8000 in
set_option maxHeartbeats 6400000 in
theorem area24_c (k : Lk) (pv fv bv : Value) (w : World) (hk : LkOk k) : Calls Tryd.prog 39 #[lkv k pv fv bv] w (PPost w (rv (areaL k))) := by
  obtain ⟨R, hR⟩ : ∃ R, R = areaL k := ⟨_, rfl⟩
  have HR : Hid (R = areaL k) := Lib.hid hR
  rw [← hR]
  have H0 : Hid (Bag w ((w.alloc (.cells #[.int .i64 k.dx, .int .i64 k.dy, .bool k.hasC, .int .i64 k.clip.x0, .int .i64 k.clip.y0, .int .i64 k.clip.x1, .int .i64 k.clip.y1, .int .i64 k.opa, .int .i64 k.mode, .int .i64 k.ct.kind, .int .i64 k.ct.box.x0, .int .i64 k.ct.box.y0, .int .i64 k.ct.box.x1, .int .i64 k.ct.box.y1, .int .u8 k.ct.px.r, .int .u8 k.ct.px.g, .int .u8 k.ct.px.b, .int .u8 k.ct.px.a, .int .i64 k.ct.w, .int .i64 k.ct.h, .int .i64 k.ct.turn, pv, .bool k.hasF, fv, .int .i64 k.fil.out, .bool k.hasB, bv, .int .i64 k.bak.out] 35)).alloc (.cells (cs4 0 0 0 0) 25)) [(w.heap.size, lkc k pv fv bv), (w.heap.size + 1, cl4 ⟨0, 0, 0, 0⟩)]) := bag2 w (lkc k pv fv bv) (cl4 ⟨0, 0, 0, 0⟩) _ _
  have HK : Hid (LkOk k) := hk
  clear hk hR
  cases hC : k.hasC with
  | false =>
    obtain rfl : R = planeR := by rw [HR.out]; unfold areaL; rw [hC]; rfl
    clear HR
    go_enter Tryd.func39, Tryd.ntmps39
    go_wp2_with fail
    rw [hC] at H0
    refine (planeAll_c _).mono ?_; rintro e W2 ⟨rfl, hb2⟩
    have H2 := Lib.hid (H0.out.call hb2)
    clear hb2 H0
    obtain ⟨r0, r1, r2, r3⟩ := box4 (H2.out.box 1 rfl)
    have f0 := H2.out.frozen 1 rfl 0
    have f1 := H2.out.frozen 1 rfl 1
    have f2 := H2.out.frozen 1 rfl 2
    have f3 := H2.out.frozen 1 rfl 3
    go_wp2_with fail
    have HF := H2.out.set4 1 rfl (.int .i64 planeR.x0) (.int .i64 planeR.y0) (.int .i64 planeR.x1) (.int .i64 planeR.y1)
    exact ret_rect (g := w.heap.size + 1) (r := planeR) rfl rfl (HF.box 1 rfl) rfl ⟨rfl, HF.below⟩
  | true =>
    have hcl := HK.out.clip hC
    have hdx := HK.out.dx
    have hdy := HK.out.dy
    unfold Nc at hdx hdy
    have HM : Hid (∀ W, Calls Tryd.prog 25 #[.agg #[.int .i64 k.clip.x0, .int .i64 k.clip.y0, .int .i64 k.clip.x1, .int .i64 k.clip.y1], .int .i64 k.dx, .int .i64 k.dy] W (PPost W (rv R))) := fun W => by
      have : R = moveR k.clip k.dx k.dy := by rw [HR.out]; unfold areaL; rw [hC]; rfl
      rw [this]
      exact move_c k.clip k.dx k.dy W hcl.pl (by omega) (by omega)
    clear HR hcl hdx hdy
    go_enter Tryd.func39, Tryd.ntmps39
    go_wp2_with fail
    rw [hC] at H0
    refine (HM.out _).mono ?_; rintro e W2 ⟨rfl, hb2⟩
    have H2 := Lib.hid (H0.out.call hb2)
    clear hb2 H0 HM
    obtain ⟨r0, r1, r2, r3⟩ := box4 (H2.out.box 1 rfl)
    have f0 := H2.out.frozen 1 rfl 0
    have f1 := H2.out.frozen 1 rfl 1
    have f2 := H2.out.frozen 1 rfl 2
    have f3 := H2.out.frozen 1 rfl 3
    go_wp2_with fail
    have HF := H2.out.set4 1 rfl (.int .i64 R.x0) (.int .i64 R.y0) (.int .i64 R.x1) (.int .i64 R.y1)
    exact ret_rect (g := w.heap.size + 1) (r := R) rfl rfl (HF.box 1 rfl) rfl ⟨rfl, HF.below⟩
end Go.Proofs.YtgodhpampaleeaaDoor
