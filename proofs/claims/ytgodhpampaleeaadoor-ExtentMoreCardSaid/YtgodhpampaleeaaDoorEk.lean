/- Texts joined: XEk. -/
import Derived.Test.YtgodhpampaleeaaDoorEj
import Derived.Deep.Cut
set_option maxRecDepth 4000
/- Layer 24: extent.Result. (Printed by mk_ek.py.) -/
namespace Go.Proofs.YtgodhpampaleeaaDoor
open Go.RowKit Go.Bx Go.Od Go.Hp
attribute [local go_sem ↓] Go.wp_at_zero Go.wp_at_succ
set_option linter.unusedVariables false

set_option maxRecDepth 8000 in
set_option maxHeartbeats 25600000 in
theorem result_step (n : Nat) (HG : GrpC n) : ResC (n + 1) := by
  intro B l cs w hl hB hok
  have HGR : Hid (∀ W, Below w.heap.size w W → Calls Tryd.prog 10 #[.agg cs.toArray] W (PPost W (rv (grpN n l)))) := fun W hb =>
    HG B l cs W ((RLy.ok (n + 1)).same (Same.of_below hb fun b (hbl : b < B) => Nat.lt_of_lt_of_le hbl hB) hl) (Nat.le_trans hB hb.size) hok
  obtain ⟨pv, fv, bv, kv, rfl, _, _, hA, hK⟩ := hl
  obtain ⟨R, hR⟩ : ∃ R, R = resN (n + 1) l := ⟨_, rfl⟩
  obtain ⟨g, hg⟩ : ∃ g, g = grpN n l := ⟨_, rfl⟩
  have HGP : Hid (RcP g) := by
    have : RcP g := by rw [hg]; exact grpN_pl hok
    exact this
  have HR : Hid (R = resK l.look g) := by
    have : R = resK l.look g := by rw [hR, hg]; rfl
    exact this
  rw [← hR]
  rw [← hg] at HGR
  obtain ⟨k, hk⟩ : ∃ k, k = l.look := ⟨_, rfl⟩
  obtain ⟨i0, hi0⟩ : ∃ k, k = l.i0 := ⟨_, rfl⟩
  obtain ⟨i1, hi1⟩ : ∃ k, k = l.i1 := ⟨_, rfl⟩
  have HOK : Hid (LkOk k) := by
    have : LkOk k := by rw [hk]; exact hok.1
    exact this
  rw [← hk] at HR HGR hA
  rw [← hi0, ← hi1] at HGR
  rw [← hk, ← hi0, ← hi1]
  obtain ⟨pa, pn, pc, rfl⟩ := sl_form hA.2.1
  obtain ⟨fa, fn, fc, rfl⟩ := sl_form hA.2.2.1
  obtain ⟨ba, bn, bc, rfl⟩ := sl_form hA.2.2.2
  obtain ⟨ka, kn, kc, rfl⟩ := sl_form hK
  have HA : Hid (SlOf RNode 3 (· < B) w (.slice fa fn fc) k.fil.nds ∧ B ≤ w.heap.size) := ⟨hA.2.2.1, hB⟩
  have HGR2 : Hid (∀ W, Below w.heap.size w W → Calls Tryd.prog 10 #[.agg #[.int .i64 i0, .int .i64 i1, .int .i64 k.dx, .int .i64 k.dy, .bool k.hasC, .int .i64 k.clip.x0, .int .i64 k.clip.y0, .int .i64 k.clip.x1, .int .i64 k.clip.y1, .int .i64 k.opa, .int .i64 k.mode, .int .i64 k.ct.kind, .int .i64 k.ct.box.x0, .int .i64 k.ct.box.y0, .int .i64 k.ct.box.x1, .int .i64 k.ct.box.y1, .int .u8 k.ct.px.r, .int .u8 k.ct.px.g, .int .u8 k.ct.px.b, .int .u8 k.ct.px.a, .int .i64 k.ct.w, .int .i64 k.ct.h, .int .i64 k.ct.turn, .slice pa pn pc, .bool k.hasF, .slice fa fn fc, .int .i64 k.fil.out, .bool k.hasB, .slice ba bn bc, .int .i64 k.bak.out, .slice ka kn kc]] W (PPost W (rv g))) := HGR.out
  clear hk hi0 hi1 hR hg hA hK hB hok HGR HG
  have HR0 : Hid (((w.alloc (.cells #[.int .i64 i0, .int .i64 i1, .int .i64 k.dx, .int .i64 k.dy, .bool k.hasC, .int .i64 k.clip.x0, .int .i64 k.clip.y0, .int .i64 k.clip.x1, .int .i64 k.clip.y1, .int .i64 k.opa, .int .i64 k.mode, .int .i64 k.ct.kind, .int .i64 k.ct.box.x0, .int .i64 k.ct.box.y0, .int .i64 k.ct.box.x1, .int .i64 k.ct.box.y1, .int .u8 k.ct.px.r, .int .u8 k.ct.px.g, .int .u8 k.ct.px.b, .int .u8 k.ct.px.a, .int .i64 k.ct.w, .int .i64 k.ct.h, .int .i64 k.ct.turn, .slice pa pn pc, .bool k.hasF, .slice fa fn fc, .int .i64 k.fil.out, .bool k.hasB, .slice ba bn bc, .int .i64 k.bak.out, .slice ka kn kc] 38)).alloc (.cells (cs4 0 0 0 0) 25)).rangeAt w.heap.size 2 [.int .i64 k.dx, .int .i64 k.dy, .bool k.hasC, .int .i64 k.clip.x0, .int .i64 k.clip.y0, .int .i64 k.clip.x1, .int .i64 k.clip.y1, .int .i64 k.opa, .int .i64 k.mode, .int .i64 k.ct.kind, .int .i64 k.ct.box.x0, .int .i64 k.ct.box.y0, .int .i64 k.ct.box.x1, .int .i64 k.ct.box.y1, .int .u8 k.ct.px.r, .int .u8 k.ct.px.g, .int .u8 k.ct.px.b, .int .u8 k.ct.px.a, .int .i64 k.ct.w, .int .i64 k.ct.h, .int .i64 k.ct.turn, .slice pa pn pc, .bool k.hasF, .slice fa fn fc, .int .i64 k.fil.out, .bool k.hasB, .slice ba bn bc, .int .i64 k.bak.out]) := (bag2 w [.int .i64 i0, .int .i64 i1, .int .i64 k.dx, .int .i64 k.dy, .bool k.hasC, .int .i64 k.clip.x0, .int .i64 k.clip.y0, .int .i64 k.clip.x1, .int .i64 k.clip.y1, .int .i64 k.opa, .int .i64 k.mode, .int .i64 k.ct.kind, .int .i64 k.ct.box.x0, .int .i64 k.ct.box.y0, .int .i64 k.ct.box.x1, .int .i64 k.ct.box.y1, .int .u8 k.ct.px.r, .int .u8 k.ct.px.g, .int .u8 k.ct.px.b, .int .u8 k.ct.px.a, .int .i64 k.ct.w, .int .i64 k.ct.h, .int .i64 k.ct.turn, .slice pa pn pc, .bool k.hasF, .slice fa fn fc, .int .i64 k.fil.out, .bool k.hasB, .slice ba bn bc, .int .i64 k.bak.out, .slice ka kn kc] (cl4 ⟨0, 0, 0, 0⟩) 38 25).range 0 rfl 2 28
  have H1 : Hid (Bag w (((w.alloc (.cells #[.int .i64 i0, .int .i64 i1, .int .i64 k.dx, .int .i64 k.dy, .bool k.hasC, .int .i64 k.clip.x0, .int .i64 k.clip.y0, .int .i64 k.clip.x1, .int .i64 k.clip.y1, .int .i64 k.opa, .int .i64 k.mode, .int .i64 k.ct.kind, .int .i64 k.ct.box.x0, .int .i64 k.ct.box.y0, .int .i64 k.ct.box.x1, .int .i64 k.ct.box.y1, .int .u8 k.ct.px.r, .int .u8 k.ct.px.g, .int .u8 k.ct.px.b, .int .u8 k.ct.px.a, .int .i64 k.ct.w, .int .i64 k.ct.h, .int .i64 k.ct.turn, .slice pa pn pc, .bool k.hasF, .slice fa fn fc, .int .i64 k.fil.out, .bool k.hasB, .slice ba bn bc, .int .i64 k.bak.out, .slice ka kn kc] 38)).alloc (.cells (cs4 0 0 0 0) 25)).alloc (.cells #[.int .i64 k.dx, .int .i64 k.dy, .bool k.hasC, .int .i64 k.clip.x0, .int .i64 k.clip.y0, .int .i64 k.clip.x1, .int .i64 k.clip.y1, .int .i64 k.opa, .int .i64 k.mode, .int .i64 k.ct.kind, .int .i64 k.ct.box.x0, .int .i64 k.ct.box.y0, .int .i64 k.ct.box.x1, .int .i64 k.ct.box.y1, .int .u8 k.ct.px.r, .int .u8 k.ct.px.g, .int .u8 k.ct.px.b, .int .u8 k.ct.px.a, .int .i64 k.ct.w, .int .i64 k.ct.h, .int .i64 k.ct.turn, .slice pa pn pc, .bool k.hasF, .slice fa fn fc, .int .i64 k.fil.out, .bool k.hasB, .slice ba bn bc, .int .i64 k.bak.out] 35)) [(w.heap.size, [.int .i64 i0, .int .i64 i1, .int .i64 k.dx, .int .i64 k.dy, .bool k.hasC, .int .i64 k.clip.x0, .int .i64 k.clip.y0, .int .i64 k.clip.x1, .int .i64 k.clip.y1, .int .i64 k.opa, .int .i64 k.mode, .int .i64 k.ct.kind, .int .i64 k.ct.box.x0, .int .i64 k.ct.box.y0, .int .i64 k.ct.box.x1, .int .i64 k.ct.box.y1, .int .u8 k.ct.px.r, .int .u8 k.ct.px.g, .int .u8 k.ct.px.b, .int .u8 k.ct.px.a, .int .i64 k.ct.w, .int .i64 k.ct.h, .int .i64 k.ct.turn, .slice pa pn pc, .bool k.hasF, .slice fa fn fc, .int .i64 k.fil.out, .bool k.hasB, .slice ba bn bc, .int .i64 k.bak.out, .slice ka kn kc]), (w.heap.size + 1, cl4 ⟨0, 0, 0, 0⟩), (w.heap.size + 1 + 1, [.int .i64 k.dx, .int .i64 k.dy, .bool k.hasC, .int .i64 k.clip.x0, .int .i64 k.clip.y0, .int .i64 k.clip.x1, .int .i64 k.clip.y1, .int .i64 k.opa, .int .i64 k.mode, .int .i64 k.ct.kind, .int .i64 k.ct.box.x0, .int .i64 k.ct.box.y0, .int .i64 k.ct.box.x1, .int .i64 k.ct.box.y1, .int .u8 k.ct.px.r, .int .u8 k.ct.px.g, .int .u8 k.ct.px.b, .int .u8 k.ct.px.a, .int .i64 k.ct.w, .int .i64 k.ct.h, .int .i64 k.ct.turn, .slice pa pn pc, .bool k.hasF, .slice fa fn fc, .int .i64 k.fil.out, .bool k.hasB, .slice ba bn bc, .int .i64 k.bak.out])]) := bag3 w [.int .i64 i0, .int .i64 i1, .int .i64 k.dx, .int .i64 k.dy, .bool k.hasC, .int .i64 k.clip.x0, .int .i64 k.clip.y0, .int .i64 k.clip.x1, .int .i64 k.clip.y1, .int .i64 k.opa, .int .i64 k.mode, .int .i64 k.ct.kind, .int .i64 k.ct.box.x0, .int .i64 k.ct.box.y0, .int .i64 k.ct.box.x1, .int .i64 k.ct.box.y1, .int .u8 k.ct.px.r, .int .u8 k.ct.px.g, .int .u8 k.ct.px.b, .int .u8 k.ct.px.a, .int .i64 k.ct.w, .int .i64 k.ct.h, .int .i64 k.ct.turn, .slice pa pn pc, .bool k.hasF, .slice fa fn fc, .int .i64 k.fil.out, .bool k.hasB, .slice ba bn bc, .int .i64 k.bak.out, .slice ka kn kc] (cl4 ⟨0, 0, 0, 0⟩) [.int .i64 k.dx, .int .i64 k.dy, .bool k.hasC, .int .i64 k.clip.x0, .int .i64 k.clip.y0, .int .i64 k.clip.x1, .int .i64 k.clip.y1, .int .i64 k.opa, .int .i64 k.mode, .int .i64 k.ct.kind, .int .i64 k.ct.box.x0, .int .i64 k.ct.box.y0, .int .i64 k.ct.box.x1, .int .i64 k.ct.box.y1, .int .u8 k.ct.px.r, .int .u8 k.ct.px.g, .int .u8 k.ct.px.b, .int .u8 k.ct.px.a, .int .i64 k.ct.w, .int .i64 k.ct.h, .int .i64 k.ct.turn, .slice pa pn pc, .bool k.hasF, .slice fa fn fc, .int .i64 k.fil.out, .bool k.hasB, .slice ba bn bc, .int .i64 k.bak.out] _ _ _
  have HR1 : Hid ((((w.alloc (.cells #[.int .i64 i0, .int .i64 i1, .int .i64 k.dx, .int .i64 k.dy, .bool k.hasC, .int .i64 k.clip.x0, .int .i64 k.clip.y0, .int .i64 k.clip.x1, .int .i64 k.clip.y1, .int .i64 k.opa, .int .i64 k.mode, .int .i64 k.ct.kind, .int .i64 k.ct.box.x0, .int .i64 k.ct.box.y0, .int .i64 k.ct.box.x1, .int .i64 k.ct.box.y1, .int .u8 k.ct.px.r, .int .u8 k.ct.px.g, .int .u8 k.ct.px.b, .int .u8 k.ct.px.a, .int .i64 k.ct.w, .int .i64 k.ct.h, .int .i64 k.ct.turn, .slice pa pn pc, .bool k.hasF, .slice fa fn fc, .int .i64 k.fil.out, .bool k.hasB, .slice ba bn bc, .int .i64 k.bak.out, .slice ka kn kc] 38)).alloc (.cells (cs4 0 0 0 0) 25)).alloc (.cells #[.int .i64 k.dx, .int .i64 k.dy, .bool k.hasC, .int .i64 k.clip.x0, .int .i64 k.clip.y0, .int .i64 k.clip.x1, .int .i64 k.clip.y1, .int .i64 k.opa, .int .i64 k.mode, .int .i64 k.ct.kind, .int .i64 k.ct.box.x0, .int .i64 k.ct.box.y0, .int .i64 k.ct.box.x1, .int .i64 k.ct.box.y1, .int .u8 k.ct.px.r, .int .u8 k.ct.px.g, .int .u8 k.ct.px.b, .int .u8 k.ct.px.a, .int .i64 k.ct.w, .int .i64 k.ct.h, .int .i64 k.ct.turn, .slice pa pn pc, .bool k.hasF, .slice fa fn fc, .int .i64 k.fil.out, .bool k.hasB, .slice ba bn bc, .int .i64 k.bak.out] 35)).rangeAt w.heap.size 0 [.int .i64 i0, .int .i64 i1, .int .i64 k.dx, .int .i64 k.dy, .bool k.hasC, .int .i64 k.clip.x0, .int .i64 k.clip.y0, .int .i64 k.clip.x1, .int .i64 k.clip.y1, .int .i64 k.opa, .int .i64 k.mode, .int .i64 k.ct.kind, .int .i64 k.ct.box.x0, .int .i64 k.ct.box.y0, .int .i64 k.ct.box.x1, .int .i64 k.ct.box.y1, .int .u8 k.ct.px.r, .int .u8 k.ct.px.g, .int .u8 k.ct.px.b, .int .u8 k.ct.px.a, .int .i64 k.ct.w, .int .i64 k.ct.h, .int .i64 k.ct.turn, .slice pa pn pc, .bool k.hasF, .slice fa fn fc, .int .i64 k.fil.out, .bool k.hasB, .slice ba bn bc, .int .i64 k.bak.out, .slice ka kn kc]) := H1.out.range 0 rfl 0 31
  by_cases h0 : k.opa = 0
  · have d0 : (k.opa == 0) = true := by simp [h0]
    obtain rfl : R = Rc.zero := HR.out.trans (if_pos h0)
    have HF : Hid (Bag w (((w.alloc (.cells #[.int .i64 i0, .int .i64 i1, .int .i64 k.dx, .int .i64 k.dy, .bool k.hasC, .int .i64 k.clip.x0, .int .i64 k.clip.y0, .int .i64 k.clip.x1, .int .i64 k.clip.y1, .int .i64 k.opa, .int .i64 k.mode, .int .i64 k.ct.kind, .int .i64 k.ct.box.x0, .int .i64 k.ct.box.y0, .int .i64 k.ct.box.x1, .int .i64 k.ct.box.y1, .int .u8 k.ct.px.r, .int .u8 k.ct.px.g, .int .u8 k.ct.px.b, .int .u8 k.ct.px.a, .int .i64 k.ct.w, .int .i64 k.ct.h, .int .i64 k.ct.turn, .slice pa pn pc, .bool k.hasF, .slice fa fn fc, .int .i64 k.fil.out, .bool k.hasB, .slice ba bn bc, .int .i64 k.bak.out, .slice ka kn kc] 38)).alloc (.cells (cs4 0 0 0 0) 25)).alloc (.cells #[.int .i64 k.dx, .int .i64 k.dy, .bool k.hasC, .int .i64 k.clip.x0, .int .i64 k.clip.y0, .int .i64 k.clip.x1, .int .i64 k.clip.y1, .int .i64 k.opa, .int .i64 k.mode, .int .i64 k.ct.kind, .int .i64 k.ct.box.x0, .int .i64 k.ct.box.y0, .int .i64 k.ct.box.x1, .int .i64 k.ct.box.y1, .int .u8 k.ct.px.r, .int .u8 k.ct.px.g, .int .u8 k.ct.px.b, .int .u8 k.ct.px.a, .int .i64 k.ct.w, .int .i64 k.ct.h, .int .i64 k.ct.turn, .slice pa pn pc, .bool k.hasF, .slice fa fn fc, .int .i64 k.fil.out, .bool k.hasB, .slice ba bn bc, .int .i64 k.bak.out] 35)) [(w.heap.size, [.int .i64 i0, .int .i64 i1, .int .i64 k.dx, .int .i64 k.dy, .bool k.hasC, .int .i64 k.clip.x0, .int .i64 k.clip.y0, .int .i64 k.clip.x1, .int .i64 k.clip.y1, .int .i64 k.opa, .int .i64 k.mode, .int .i64 k.ct.kind, .int .i64 k.ct.box.x0, .int .i64 k.ct.box.y0, .int .i64 k.ct.box.x1, .int .i64 k.ct.box.y1, .int .u8 k.ct.px.r, .int .u8 k.ct.px.g, .int .u8 k.ct.px.b, .int .u8 k.ct.px.a, .int .i64 k.ct.w, .int .i64 k.ct.h, .int .i64 k.ct.turn, .slice pa pn pc, .bool k.hasF, .slice fa fn fc, .int .i64 k.fil.out, .bool k.hasB, .slice ba bn bc, .int .i64 k.bak.out, .slice ka kn kc]), (w.heap.size + 1, cl4 ⟨0, 0, 0, 0⟩), (w.heap.size + 1 + 1, [.int .i64 k.dx, .int .i64 k.dy, .bool k.hasC, .int .i64 k.clip.x0, .int .i64 k.clip.y0, .int .i64 k.clip.x1, .int .i64 k.clip.y1, .int .i64 k.opa, .int .i64 k.mode, .int .i64 k.ct.kind, .int .i64 k.ct.box.x0, .int .i64 k.ct.box.y0, .int .i64 k.ct.box.x1, .int .i64 k.ct.box.y1, .int .u8 k.ct.px.r, .int .u8 k.ct.px.g, .int .u8 k.ct.px.b, .int .u8 k.ct.px.a, .int .i64 k.ct.w, .int .i64 k.ct.h, .int .i64 k.ct.turn, .slice pa pn pc, .bool k.hasF, .slice fa fn fc, .int .i64 k.fil.out, .bool k.hasB, .slice ba bn bc, .int .i64 k.bak.out])]) := H1.out
    clear h0 HR HGR2 HR1 H1
    go_enter Tryd.func11, Tryd.ntmps11
    go_wp2_with (first | (with_reducible refine wpList_load_mid rfl 35 _ rfl w.heap.size 2 rfl [.int .i64 k.dx, .int .i64 k.dy, .bool k.hasC, .int .i64 k.clip.x0, .int .i64 k.clip.y0, .int .i64 k.clip.x1, .int .i64 k.clip.y1, .int .i64 k.opa, .int .i64 k.mode, .int .i64 k.ct.kind, .int .i64 k.ct.box.x0, .int .i64 k.ct.box.y0, .int .i64 k.ct.box.x1, .int .i64 k.ct.box.y1, .int .u8 k.ct.px.r, .int .u8 k.ct.px.g, .int .u8 k.ct.px.b, .int .u8 k.ct.px.a, .int .i64 k.ct.w, .int .i64 k.ct.h, .int .i64 k.ct.turn, .slice pa pn pc, .bool k.hasF, .slice fa fn fc, .int .i64 k.fil.out, .bool k.hasB, .slice ba bn bc, .int .i64 k.bak.out] _ HR0.out Tryd.underlying35 rfl (by kernel_rfl) ?_; simp only [Act.put, List.setIfInBounds_toArray, List.set_cons_succ, List.set_cons_zero]) | (with_reducible refine wpList_alloc_store rfl rfl 35 rfl _ _ rfl _ #[.int .i64 k.dx, .int .i64 k.dy, .bool k.hasC, .int .i64 k.clip.x0, .int .i64 k.clip.y0, .int .i64 k.clip.x1, .int .i64 k.clip.y1, .int .i64 k.opa, .int .i64 k.mode, .int .i64 k.ct.kind, .int .i64 k.ct.box.x0, .int .i64 k.ct.box.y0, .int .i64 k.ct.box.x1, .int .i64 k.ct.box.y1, .int .u8 k.ct.px.r, .int .u8 k.ct.px.g, .int .u8 k.ct.px.b, .int .u8 k.ct.px.a, .int .i64 k.ct.w, .int .i64 k.ct.h, .int .i64 k.ct.turn, .slice pa pn pc, .bool k.hasF, .slice fa fn fc, .int .i64 k.fil.out, .bool k.hasB, .slice ba bn bc, .int .i64 k.bak.out] alLook (by simp [size_alloc, Act.eval, Act.put]) rfl (by kernel_rfl) (by kernel_rfl) (by simp [Value.oneCell']) ?_; simp only [Act.put, List.setIfInBounds_toArray, List.set_cons_succ, List.set_cons_zero, size_alloc]))
    exact ret_rect (g := w.heap.size + 1) (r := Rc.zero) rfl rfl (HF.out.box 1 rfl) rfl ⟨rfl, HF.out.below⟩
  · have d0 : (k.opa == 0) = false := by simp [h0]
    have HRN : Hid (R = moveR (clpR k (filR k g)) k.dx k.dy) := by
      have : R = moveR (clpR k (filR k g)) k.dx k.dy := HR.out.trans (if_neg h0)
      exact this
    clear h0 HR
    go_enter Tryd.func11, Tryd.ntmps11
    go_wp2_with (first | (with_reducible refine wpList_load_mid rfl 35 _ rfl w.heap.size 2 rfl [.int .i64 k.dx, .int .i64 k.dy, .bool k.hasC, .int .i64 k.clip.x0, .int .i64 k.clip.y0, .int .i64 k.clip.x1, .int .i64 k.clip.y1, .int .i64 k.opa, .int .i64 k.mode, .int .i64 k.ct.kind, .int .i64 k.ct.box.x0, .int .i64 k.ct.box.y0, .int .i64 k.ct.box.x1, .int .i64 k.ct.box.y1, .int .u8 k.ct.px.r, .int .u8 k.ct.px.g, .int .u8 k.ct.px.b, .int .u8 k.ct.px.a, .int .i64 k.ct.w, .int .i64 k.ct.h, .int .i64 k.ct.turn, .slice pa pn pc, .bool k.hasF, .slice fa fn fc, .int .i64 k.fil.out, .bool k.hasB, .slice ba bn bc, .int .i64 k.bak.out] _ HR0.out Tryd.underlying35 rfl (by kernel_rfl) ?_; simp only [Act.put, List.setIfInBounds_toArray, List.set_cons_succ, List.set_cons_zero]) | (with_reducible refine wpList_alloc_store rfl rfl 35 rfl _ _ rfl _ #[.int .i64 k.dx, .int .i64 k.dy, .bool k.hasC, .int .i64 k.clip.x0, .int .i64 k.clip.y0, .int .i64 k.clip.x1, .int .i64 k.clip.y1, .int .i64 k.opa, .int .i64 k.mode, .int .i64 k.ct.kind, .int .i64 k.ct.box.x0, .int .i64 k.ct.box.y0, .int .i64 k.ct.box.x1, .int .i64 k.ct.box.y1, .int .u8 k.ct.px.r, .int .u8 k.ct.px.g, .int .u8 k.ct.px.b, .int .u8 k.ct.px.a, .int .i64 k.ct.w, .int .i64 k.ct.h, .int .i64 k.ct.turn, .slice pa pn pc, .bool k.hasF, .slice fa fn fc, .int .i64 k.fil.out, .bool k.hasB, .slice ba bn bc, .int .i64 k.bak.out] alLook (by simp [Act.eval, Act.put]) rfl (by kernel_rfl) (by kernel_rfl) (by simp [Value.oneCell']) ?_; simp only [Act.put, List.setIfInBounds_toArray, List.set_cons_succ, List.set_cons_zero, size_alloc]) | (with_reducible refine wpList_load_mid rfl 38 _ rfl w.heap.size 0 rfl [.int .i64 i0, .int .i64 i1, .int .i64 k.dx, .int .i64 k.dy, .bool k.hasC, .int .i64 k.clip.x0, .int .i64 k.clip.y0, .int .i64 k.clip.x1, .int .i64 k.clip.y1, .int .i64 k.opa, .int .i64 k.mode, .int .i64 k.ct.kind, .int .i64 k.ct.box.x0, .int .i64 k.ct.box.y0, .int .i64 k.ct.box.x1, .int .i64 k.ct.box.y1, .int .u8 k.ct.px.r, .int .u8 k.ct.px.g, .int .u8 k.ct.px.b, .int .u8 k.ct.px.a, .int .i64 k.ct.w, .int .i64 k.ct.h, .int .i64 k.ct.turn, .slice pa pn pc, .bool k.hasF, .slice fa fn fc, .int .i64 k.fil.out, .bool k.hasB, .slice ba bn bc, .int .i64 k.bak.out, .slice ka kn kc] _ HR1.out Tryd.underlying38 rfl (by kernel_rfl) ?_; simp only [Act.put, List.setIfInBounds_toArray, List.set_cons_succ, List.set_cons_zero]))
    refine (HGR2.out _ H1.out.below).mono ?_; rintro e W2 ⟨rfl, hb2⟩
    have H2 : Hid (Bag w (W2.alloc (.cells #[.int .i64 g.x0, .int .i64 g.y0, .int .i64 g.x1, .int .i64 g.y1] 25)) [(w.heap.size, [.int .i64 i0, .int .i64 i1, .int .i64 k.dx, .int .i64 k.dy, .bool k.hasC, .int .i64 k.clip.x0, .int .i64 k.clip.y0, .int .i64 k.clip.x1, .int .i64 k.clip.y1, .int .i64 k.opa, .int .i64 k.mode, .int .i64 k.ct.kind, .int .i64 k.ct.box.x0, .int .i64 k.ct.box.y0, .int .i64 k.ct.box.x1, .int .i64 k.ct.box.y1, .int .u8 k.ct.px.r, .int .u8 k.ct.px.g, .int .u8 k.ct.px.b, .int .u8 k.ct.px.a, .int .i64 k.ct.w, .int .i64 k.ct.h, .int .i64 k.ct.turn, .slice pa pn pc, .bool k.hasF, .slice fa fn fc, .int .i64 k.fil.out, .bool k.hasB, .slice ba bn bc, .int .i64 k.bak.out, .slice ka kn kc]), (w.heap.size + 1, cl4 ⟨0, 0, 0, 0⟩), (w.heap.size + 1 + 1, [.int .i64 k.dx, .int .i64 k.dy, .bool k.hasC, .int .i64 k.clip.x0, .int .i64 k.clip.y0, .int .i64 k.clip.x1, .int .i64 k.clip.y1, .int .i64 k.opa, .int .i64 k.mode, .int .i64 k.ct.kind, .int .i64 k.ct.box.x0, .int .i64 k.ct.box.y0, .int .i64 k.ct.box.x1, .int .i64 k.ct.box.y1, .int .u8 k.ct.px.r, .int .u8 k.ct.px.g, .int .u8 k.ct.px.b, .int .u8 k.ct.px.a, .int .i64 k.ct.w, .int .i64 k.ct.h, .int .i64 k.ct.turn, .slice pa pn pc, .bool k.hasF, .slice fa fn fc, .int .i64 k.fil.out, .bool k.hasB, .slice ba bn bc, .int .i64 k.bak.out]), (W2.heap.size, cl4 g)]) := (H1.out.call hb2).alloc (cl4 g) _
    have HDX : Hid (Nc k.dx ∧ Nc k.dy) := ⟨HOK.out.dx, HOK.out.dy⟩
    clear hb2 H1 HR0 HR1 HGR2 d0
    cases hF : k.hasF with
    | false =>
      cases hC : k.hasC with
      | false =>
        have HAP : Hid (filR k g = g ∧ RcP g) := ⟨by unfold filR; rw [hF]; rfl, HGP.out⟩
        have HBP : Hid (clpR k g = g ∧ RcP g) := ⟨by unfold clpR; rw [hC]; rfl, HAP.out.2⟩
        have HMV : Hid (∀ W, Calls Tryd.prog 25 #[.agg #[.int .i64 g.x0, .int .i64 g.y0, .int .i64 g.x1, .int .i64 g.y1], .int .i64 k.dx, .int .i64 k.dy] W (PPost W (.agg #[.int .i64 R.x0, .int .i64 R.y0, .int .i64 R.x1, .int .i64 R.y1]))) := fun W => by
          rw [HRN.out, HAP.out.1, HBP.out.1]
          have h := HDX.out
          unfold Nc at h
          exact move_c g k.dx k.dy W HBP.out.2 (by omega) (by omega)
        have e22 := H2.out.cell 2 rfl 22 rfl
        rw [hF] at e22
        have e2 := H2.out.cell 2 rfl 2 rfl
        rw [hC] at e2
        have e3 := H2.out.cell 2 rfl 3 rfl
        have e4 := H2.out.cell 2 rfl 4 rfl
        have e5 := H2.out.cell 2 rfl 5 rfl
        have e6 := H2.out.cell 2 rfl 6 rfl
        have e0 := H2.out.cell 2 rfl 0 rfl
        have e1 := H2.out.cell 2 rfl 1 rfl
        obtain ⟨q0, q1, q2, q3⟩ := box4 (H2.out.box 3 rfl)
        have qf0 := H2.out.frozen 3 rfl 0
        have qf1 := H2.out.frozen 3 rfl 1
        have qf2 := H2.out.frozen 3 rfl 2
        have qf3 := H2.out.frozen 3 rfl 3
        have HHF : Hid (k.hasF = false ∧ k.hasC = false) := ⟨hF, hC⟩
        clear hF hC
        go_wp2_with fail
        refine (HMV.out _).mono ?_; rintro e W7 ⟨rfl, hb7⟩
        have H7 := Lib.hid (H2.out.call hb7)
        clear hb7 H2 e22 e2 e3 e4 e5 e6 e0 e1 q0 q1 q2 q3 qf0 qf1 qf2 qf3
        obtain ⟨r0, r1, r2, r3⟩ := box4 (H7.out.box 1 rfl)
        have f0 := H7.out.frozen 1 rfl 0
        have f1 := H7.out.frozen 1 rfl 1
        have f2 := H7.out.frozen 1 rfl 2
        have f3 := H7.out.frozen 1 rfl 3
        go_wp2_with fail
        have HF := H7.out.set4 1 rfl (.int .i64 R.x0) (.int .i64 R.y0) (.int .i64 R.x1) (.int .i64 R.y1)
        exact ret_rect (g := w.heap.size + 1) (r := R) rfl rfl (HF.box 1 rfl) rfl ⟨rfl, HF.below⟩
      | true =>
        have HAP : Hid (filR k g = g ∧ RcP g) := ⟨by unfold filR; rw [hF]; rfl, HGP.out⟩
        obtain ⟨b, hb⟩ : ∃ b, b = meetR g k.clip := ⟨_, rfl⟩
        have HME : Hid (∀ W, Calls Tryd.prog 24 #[.agg #[.int .i64 g.x0, .int .i64 g.y0, .int .i64 g.x1, .int .i64 g.y1], .agg #[.int .i64 k.clip.x0, .int .i64 k.clip.y0, .int .i64 k.clip.x1, .int .i64 k.clip.y1]] W (PPost W (.agg #[.int .i64 b.x0, .int .i64 b.y0, .int .i64 b.x1, .int .i64 b.y1]))) := fun W => by rw [hb]; exact meet_c g k.clip W
        have HBP : Hid (clpR k g = b ∧ RcP b) := ⟨by rw [hb]; unfold clpR; rw [hC]; rfl, by rw [hb]; exact meetR_pl HAP.out.2 (HOK.out.clip hC).pl⟩
        clear hb
        have HMV : Hid (∀ W, Calls Tryd.prog 25 #[.agg #[.int .i64 b.x0, .int .i64 b.y0, .int .i64 b.x1, .int .i64 b.y1], .int .i64 k.dx, .int .i64 k.dy] W (PPost W (.agg #[.int .i64 R.x0, .int .i64 R.y0, .int .i64 R.x1, .int .i64 R.y1]))) := fun W => by
          rw [HRN.out, HAP.out.1, HBP.out.1]
          have h := HDX.out
          unfold Nc at h
          exact move_c b k.dx k.dy W HBP.out.2 (by omega) (by omega)
        have e22 := H2.out.cell 2 rfl 22 rfl
        rw [hF] at e22
        have e2 := H2.out.cell 2 rfl 2 rfl
        rw [hC] at e2
        have e3 := H2.out.cell 2 rfl 3 rfl
        have e4 := H2.out.cell 2 rfl 4 rfl
        have e5 := H2.out.cell 2 rfl 5 rfl
        have e6 := H2.out.cell 2 rfl 6 rfl
        have e0 := H2.out.cell 2 rfl 0 rfl
        have e1 := H2.out.cell 2 rfl 1 rfl
        obtain ⟨q0, q1, q2, q3⟩ := box4 (H2.out.box 3 rfl)
        have qf0 := H2.out.frozen 3 rfl 0
        have qf1 := H2.out.frozen 3 rfl 1
        have qf2 := H2.out.frozen 3 rfl 2
        have qf3 := H2.out.frozen 3 rfl 3
        have HHF : Hid (k.hasF = false ∧ k.hasC = true) := ⟨hF, hC⟩
        clear hF hC
        go_wp2_with fail
        refine (HME.out _).mono ?_; rintro e W5 ⟨rfl, hb5⟩
        have H5 := Lib.hid (H2.out.call hb5)
        clear hb5 H2 e22 e2 e3 e4 e5 e6 e0 e1 q0 q1 q2 q3 qf0 qf1 qf2 qf3
        have hF := HHF.out.1
        have hC := HHF.out.2
        have e22 := H5.out.cell 2 rfl 22 rfl
        rw [hF] at e22
        have e2 := H5.out.cell 2 rfl 2 rfl
        rw [hC] at e2
        have e3 := H5.out.cell 2 rfl 3 rfl
        have e4 := H5.out.cell 2 rfl 4 rfl
        have e5 := H5.out.cell 2 rfl 5 rfl
        have e6 := H5.out.cell 2 rfl 6 rfl
        have e0 := H5.out.cell 2 rfl 0 rfl
        have e1 := H5.out.cell 2 rfl 1 rfl
        obtain ⟨q0, q1, q2, q3⟩ := box4 (H5.out.box 3 rfl)
        have qf0 := H5.out.frozen 3 rfl 0
        have qf1 := H5.out.frozen 3 rfl 1
        have qf2 := H5.out.frozen 3 rfl 2
        have qf3 := H5.out.frozen 3 rfl 3
        clear hF hC
        have H6 : Hid (Bag w ((((W5.setCell ⟨W2.heap.size, 0, none⟩ (.int .i64 b.x0)).setCell ⟨W2.heap.size, 1, none⟩ (.int .i64 b.y0)).setCell ⟨W2.heap.size, 2, none⟩ (.int .i64 b.x1)).setCell ⟨W2.heap.size, 3, none⟩ (.int .i64 b.y1)) [(w.heap.size, [.int .i64 i0, .int .i64 i1, .int .i64 k.dx, .int .i64 k.dy, .bool k.hasC, .int .i64 k.clip.x0, .int .i64 k.clip.y0, .int .i64 k.clip.x1, .int .i64 k.clip.y1, .int .i64 k.opa, .int .i64 k.mode, .int .i64 k.ct.kind, .int .i64 k.ct.box.x0, .int .i64 k.ct.box.y0, .int .i64 k.ct.box.x1, .int .i64 k.ct.box.y1, .int .u8 k.ct.px.r, .int .u8 k.ct.px.g, .int .u8 k.ct.px.b, .int .u8 k.ct.px.a, .int .i64 k.ct.w, .int .i64 k.ct.h, .int .i64 k.ct.turn, .slice pa pn pc, .bool k.hasF, .slice fa fn fc, .int .i64 k.fil.out, .bool k.hasB, .slice ba bn bc, .int .i64 k.bak.out, .slice ka kn kc]), (w.heap.size + 1, cl4 ⟨0, 0, 0, 0⟩), (w.heap.size + 1 + 1, [.int .i64 k.dx, .int .i64 k.dy, .bool k.hasC, .int .i64 k.clip.x0, .int .i64 k.clip.y0, .int .i64 k.clip.x1, .int .i64 k.clip.y1, .int .i64 k.opa, .int .i64 k.mode, .int .i64 k.ct.kind, .int .i64 k.ct.box.x0, .int .i64 k.ct.box.y0, .int .i64 k.ct.box.x1, .int .i64 k.ct.box.y1, .int .u8 k.ct.px.r, .int .u8 k.ct.px.g, .int .u8 k.ct.px.b, .int .u8 k.ct.px.a, .int .i64 k.ct.w, .int .i64 k.ct.h, .int .i64 k.ct.turn, .slice pa pn pc, .bool k.hasF, .slice fa fn fc, .int .i64 k.fil.out, .bool k.hasB, .slice ba bn bc, .int .i64 k.bak.out]), (W2.heap.size, cl4 b)]) := H5.out.set4 3 rfl _ _ _ _
        go_upto_region 9 with (fail)
        generalize ((((W5.setCell ⟨W2.heap.size, 0, none⟩ (.int .i64 b.x0)).setCell ⟨W2.heap.size, 1, none⟩ (.int .i64 b.y0)).setCell ⟨W2.heap.size, 2, none⟩ (.int .i64 b.x1)).setCell ⟨W2.heap.size, 3, none⟩ (.int .i64 b.y1)) = W6 at *
        clear H5 e22 e2 e3 e4 e5 e6 e0 e1 q0 q1 q2 q3 qf0 qf1 qf2 qf3
        have hF := HHF.out.1
        have hC := HHF.out.2
        have e22 := H6.out.cell 2 rfl 22 rfl
        rw [hF] at e22
        have e2 := H6.out.cell 2 rfl 2 rfl
        rw [hC] at e2
        have e3 := H6.out.cell 2 rfl 3 rfl
        have e4 := H6.out.cell 2 rfl 4 rfl
        have e5 := H6.out.cell 2 rfl 5 rfl
        have e6 := H6.out.cell 2 rfl 6 rfl
        have e0 := H6.out.cell 2 rfl 0 rfl
        have e1 := H6.out.cell 2 rfl 1 rfl
        obtain ⟨q0, q1, q2, q3⟩ := box4 (H6.out.box 3 rfl)
        have qf0 := H6.out.frozen 3 rfl 0
        have qf1 := H6.out.frozen 3 rfl 1
        have qf2 := H6.out.frozen 3 rfl 2
        have qf3 := H6.out.frozen 3 rfl 3
        clear hF hC
        go_wp2_with fail
        refine (HMV.out _).mono ?_; rintro e W7 ⟨rfl, hb7⟩
        have H7 := Lib.hid (H6.out.call hb7)
        clear hb7 H6 e22 e2 e3 e4 e5 e6 e0 e1 q0 q1 q2 q3 qf0 qf1 qf2 qf3
        obtain ⟨r0, r1, r2, r3⟩ := box4 (H7.out.box 1 rfl)
        have f0 := H7.out.frozen 1 rfl 0
        have f1 := H7.out.frozen 1 rfl 1
        have f2 := H7.out.frozen 1 rfl 2
        have f3 := H7.out.frozen 1 rfl 3
        go_wp2_with fail
        have HF := H7.out.set4 1 rfl (.int .i64 R.x0) (.int .i64 R.y0) (.int .i64 R.x1) (.int .i64 R.y1)
        exact ret_rect (g := w.heap.size + 1) (r := R) rfl rfl (HF.box 1 rfl) rfl ⟨rfl, HF.below⟩
    | true =>
      cases hC : k.hasC with
      | false =>
        obtain ⟨a, ha⟩ : ∃ a, a = reachG k.fil g := ⟨_, rfl⟩
        have HRA : Hid (∀ W, Below w.heap.size w W → Calls Tryd.prog 23 #[.agg #[.slice fa fn fc, .int .i64 k.fil.out], .agg #[.int .i64 g.x0, .int .i64 g.y0, .int .i64 g.x1, .int .i64 g.y1]] W (PPost W (.agg #[.int .i64 a.x0, .int .i64 a.y0, .int .i64 a.x1, .int .i64 a.y1]))) := fun W hb => by
          rw [ha]
          exact reachAll_c B _ k.fil g W (HOK.out.fil hF) (SlOf.same RNode.ok (Same.of_below hb fun b hbl => Nat.lt_of_lt_of_le hbl HA.out.2) HA.out.1) (Nat.le_trans HA.out.2 hb.size) HGP.out
        have HAP : Hid (filR k g = a ∧ RcP a) := ⟨by rw [ha]; unfold filR; rw [hF]; rfl, by rw [ha]; exact reachG_pl' (HOK.out.fil hF) HGP.out⟩
        clear ha
        have HBP : Hid (clpR k a = a ∧ RcP a) := ⟨by unfold clpR; rw [hC]; rfl, HAP.out.2⟩
        have HMV : Hid (∀ W, Calls Tryd.prog 25 #[.agg #[.int .i64 a.x0, .int .i64 a.y0, .int .i64 a.x1, .int .i64 a.y1], .int .i64 k.dx, .int .i64 k.dy] W (PPost W (.agg #[.int .i64 R.x0, .int .i64 R.y0, .int .i64 R.x1, .int .i64 R.y1]))) := fun W => by
          rw [HRN.out, HAP.out.1, HBP.out.1]
          have h := HDX.out
          unfold Nc at h
          exact move_c a k.dx k.dy W HBP.out.2 (by omega) (by omega)
        have e22 := H2.out.cell 2 rfl 22 rfl
        rw [hF] at e22
        have e2 := H2.out.cell 2 rfl 2 rfl
        rw [hC] at e2
        have e3 := H2.out.cell 2 rfl 3 rfl
        have e4 := H2.out.cell 2 rfl 4 rfl
        have e5 := H2.out.cell 2 rfl 5 rfl
        have e6 := H2.out.cell 2 rfl 6 rfl
        have e0 := H2.out.cell 2 rfl 0 rfl
        have e1 := H2.out.cell 2 rfl 1 rfl
        have e23 := H2.out.cell 2 rfl 23 rfl
        have e24 := H2.out.cell 2 rfl 24 rfl
        obtain ⟨q0, q1, q2, q3⟩ := box4 (H2.out.box 3 rfl)
        have qf0 := H2.out.frozen 3 rfl 0
        have qf1 := H2.out.frozen 3 rfl 1
        have qf2 := H2.out.frozen 3 rfl 2
        have qf3 := H2.out.frozen 3 rfl 3
        have HHF : Hid (k.hasF = true ∧ k.hasC = false) := ⟨hF, hC⟩
        clear hF hC
        go_wp2_with fail
        refine (HRA.out _ H2.out.below).mono ?_; rintro e W3 ⟨rfl, hb3⟩
        have H3 := Lib.hid (H2.out.call hb3)
        clear hb3 H2 e22 e2 e3 e4 e5 e6 e0 e1 e23 e24 q0 q1 q2 q3 qf0 qf1 qf2 qf3
        have hF := HHF.out.1
        have hC := HHF.out.2
        have e22 := H3.out.cell 2 rfl 22 rfl
        rw [hF] at e22
        have e2 := H3.out.cell 2 rfl 2 rfl
        rw [hC] at e2
        have e3 := H3.out.cell 2 rfl 3 rfl
        have e4 := H3.out.cell 2 rfl 4 rfl
        have e5 := H3.out.cell 2 rfl 5 rfl
        have e6 := H3.out.cell 2 rfl 6 rfl
        have e0 := H3.out.cell 2 rfl 0 rfl
        have e1 := H3.out.cell 2 rfl 1 rfl
        have e23 := H3.out.cell 2 rfl 23 rfl
        have e24 := H3.out.cell 2 rfl 24 rfl
        obtain ⟨q0, q1, q2, q3⟩ := box4 (H3.out.box 3 rfl)
        have qf0 := H3.out.frozen 3 rfl 0
        have qf1 := H3.out.frozen 3 rfl 1
        have qf2 := H3.out.frozen 3 rfl 2
        have qf3 := H3.out.frozen 3 rfl 3
        clear hF hC
        have H4 : Hid (Bag w ((((W3.setCell ⟨W2.heap.size, 0, none⟩ (.int .i64 a.x0)).setCell ⟨W2.heap.size, 1, none⟩ (.int .i64 a.y0)).setCell ⟨W2.heap.size, 2, none⟩ (.int .i64 a.x1)).setCell ⟨W2.heap.size, 3, none⟩ (.int .i64 a.y1)) [(w.heap.size, [.int .i64 i0, .int .i64 i1, .int .i64 k.dx, .int .i64 k.dy, .bool k.hasC, .int .i64 k.clip.x0, .int .i64 k.clip.y0, .int .i64 k.clip.x1, .int .i64 k.clip.y1, .int .i64 k.opa, .int .i64 k.mode, .int .i64 k.ct.kind, .int .i64 k.ct.box.x0, .int .i64 k.ct.box.y0, .int .i64 k.ct.box.x1, .int .i64 k.ct.box.y1, .int .u8 k.ct.px.r, .int .u8 k.ct.px.g, .int .u8 k.ct.px.b, .int .u8 k.ct.px.a, .int .i64 k.ct.w, .int .i64 k.ct.h, .int .i64 k.ct.turn, .slice pa pn pc, .bool k.hasF, .slice fa fn fc, .int .i64 k.fil.out, .bool k.hasB, .slice ba bn bc, .int .i64 k.bak.out, .slice ka kn kc]), (w.heap.size + 1, cl4 ⟨0, 0, 0, 0⟩), (w.heap.size + 1 + 1, [.int .i64 k.dx, .int .i64 k.dy, .bool k.hasC, .int .i64 k.clip.x0, .int .i64 k.clip.y0, .int .i64 k.clip.x1, .int .i64 k.clip.y1, .int .i64 k.opa, .int .i64 k.mode, .int .i64 k.ct.kind, .int .i64 k.ct.box.x0, .int .i64 k.ct.box.y0, .int .i64 k.ct.box.x1, .int .i64 k.ct.box.y1, .int .u8 k.ct.px.r, .int .u8 k.ct.px.g, .int .u8 k.ct.px.b, .int .u8 k.ct.px.a, .int .i64 k.ct.w, .int .i64 k.ct.h, .int .i64 k.ct.turn, .slice pa pn pc, .bool k.hasF, .slice fa fn fc, .int .i64 k.fil.out, .bool k.hasB, .slice ba bn bc, .int .i64 k.bak.out]), (W2.heap.size, cl4 a)]) := H3.out.set4 3 rfl _ _ _ _
        go_upto_region 7 with (fail)
        generalize ((((W3.setCell ⟨W2.heap.size, 0, none⟩ (.int .i64 a.x0)).setCell ⟨W2.heap.size, 1, none⟩ (.int .i64 a.y0)).setCell ⟨W2.heap.size, 2, none⟩ (.int .i64 a.x1)).setCell ⟨W2.heap.size, 3, none⟩ (.int .i64 a.y1)) = W4 at *
        clear H3 e22 e2 e3 e4 e5 e6 e0 e1 e23 e24 q0 q1 q2 q3 qf0 qf1 qf2 qf3
        have hF := HHF.out.1
        have hC := HHF.out.2
        have e22 := H4.out.cell 2 rfl 22 rfl
        rw [hF] at e22
        have e2 := H4.out.cell 2 rfl 2 rfl
        rw [hC] at e2
        have e3 := H4.out.cell 2 rfl 3 rfl
        have e4 := H4.out.cell 2 rfl 4 rfl
        have e5 := H4.out.cell 2 rfl 5 rfl
        have e6 := H4.out.cell 2 rfl 6 rfl
        have e0 := H4.out.cell 2 rfl 0 rfl
        have e1 := H4.out.cell 2 rfl 1 rfl
        have e23 := H4.out.cell 2 rfl 23 rfl
        have e24 := H4.out.cell 2 rfl 24 rfl
        obtain ⟨q0, q1, q2, q3⟩ := box4 (H4.out.box 3 rfl)
        have qf0 := H4.out.frozen 3 rfl 0
        have qf1 := H4.out.frozen 3 rfl 1
        have qf2 := H4.out.frozen 3 rfl 2
        have qf3 := H4.out.frozen 3 rfl 3
        clear hF hC
        go_wp2_with fail
        refine (HMV.out _).mono ?_; rintro e W7 ⟨rfl, hb7⟩
        have H7 := Lib.hid (H4.out.call hb7)
        clear hb7 H4 e22 e2 e3 e4 e5 e6 e0 e1 e23 e24 q0 q1 q2 q3 qf0 qf1 qf2 qf3
        obtain ⟨r0, r1, r2, r3⟩ := box4 (H7.out.box 1 rfl)
        have f0 := H7.out.frozen 1 rfl 0
        have f1 := H7.out.frozen 1 rfl 1
        have f2 := H7.out.frozen 1 rfl 2
        have f3 := H7.out.frozen 1 rfl 3
        go_wp2_with fail
        have HF := H7.out.set4 1 rfl (.int .i64 R.x0) (.int .i64 R.y0) (.int .i64 R.x1) (.int .i64 R.y1)
        exact ret_rect (g := w.heap.size + 1) (r := R) rfl rfl (HF.box 1 rfl) rfl ⟨rfl, HF.below⟩
      | true =>
        obtain ⟨a, ha⟩ : ∃ a, a = reachG k.fil g := ⟨_, rfl⟩
        have HRA : Hid (∀ W, Below w.heap.size w W → Calls Tryd.prog 23 #[.agg #[.slice fa fn fc, .int .i64 k.fil.out], .agg #[.int .i64 g.x0, .int .i64 g.y0, .int .i64 g.x1, .int .i64 g.y1]] W (PPost W (.agg #[.int .i64 a.x0, .int .i64 a.y0, .int .i64 a.x1, .int .i64 a.y1]))) := fun W hb => by
          rw [ha]
          exact reachAll_c B _ k.fil g W (HOK.out.fil hF) (SlOf.same RNode.ok (Same.of_below hb fun b hbl => Nat.lt_of_lt_of_le hbl HA.out.2) HA.out.1) (Nat.le_trans HA.out.2 hb.size) HGP.out
        have HAP : Hid (filR k g = a ∧ RcP a) := ⟨by rw [ha]; unfold filR; rw [hF]; rfl, by rw [ha]; exact reachG_pl' (HOK.out.fil hF) HGP.out⟩
        clear ha
        obtain ⟨b, hb⟩ : ∃ b, b = meetR a k.clip := ⟨_, rfl⟩
        have HME : Hid (∀ W, Calls Tryd.prog 24 #[.agg #[.int .i64 a.x0, .int .i64 a.y0, .int .i64 a.x1, .int .i64 a.y1], .agg #[.int .i64 k.clip.x0, .int .i64 k.clip.y0, .int .i64 k.clip.x1, .int .i64 k.clip.y1]] W (PPost W (.agg #[.int .i64 b.x0, .int .i64 b.y0, .int .i64 b.x1, .int .i64 b.y1]))) := fun W => by rw [hb]; exact meet_c a k.clip W
        have HBP : Hid (clpR k a = b ∧ RcP b) := ⟨by rw [hb]; unfold clpR; rw [hC]; rfl, by rw [hb]; exact meetR_pl HAP.out.2 (HOK.out.clip hC).pl⟩
        clear hb
        have HMV : Hid (∀ W, Calls Tryd.prog 25 #[.agg #[.int .i64 b.x0, .int .i64 b.y0, .int .i64 b.x1, .int .i64 b.y1], .int .i64 k.dx, .int .i64 k.dy] W (PPost W (.agg #[.int .i64 R.x0, .int .i64 R.y0, .int .i64 R.x1, .int .i64 R.y1]))) := fun W => by
          rw [HRN.out, HAP.out.1, HBP.out.1]
          have h := HDX.out
          unfold Nc at h
          exact move_c b k.dx k.dy W HBP.out.2 (by omega) (by omega)
        have e22 := H2.out.cell 2 rfl 22 rfl
        rw [hF] at e22
        have e2 := H2.out.cell 2 rfl 2 rfl
        rw [hC] at e2
        have e3 := H2.out.cell 2 rfl 3 rfl
        have e4 := H2.out.cell 2 rfl 4 rfl
        have e5 := H2.out.cell 2 rfl 5 rfl
        have e6 := H2.out.cell 2 rfl 6 rfl
        have e0 := H2.out.cell 2 rfl 0 rfl
        have e1 := H2.out.cell 2 rfl 1 rfl
        have e23 := H2.out.cell 2 rfl 23 rfl
        have e24 := H2.out.cell 2 rfl 24 rfl
        obtain ⟨q0, q1, q2, q3⟩ := box4 (H2.out.box 3 rfl)
        have qf0 := H2.out.frozen 3 rfl 0
        have qf1 := H2.out.frozen 3 rfl 1
        have qf2 := H2.out.frozen 3 rfl 2
        have qf3 := H2.out.frozen 3 rfl 3
        have HHF : Hid (k.hasF = true ∧ k.hasC = true) := ⟨hF, hC⟩
        clear hF hC
        go_wp2_with fail
        refine (HRA.out _ H2.out.below).mono ?_; rintro e W3 ⟨rfl, hb3⟩
        have H3 := Lib.hid (H2.out.call hb3)
        clear hb3 H2 e22 e2 e3 e4 e5 e6 e0 e1 e23 e24 q0 q1 q2 q3 qf0 qf1 qf2 qf3
        have hF := HHF.out.1
        have hC := HHF.out.2
        have e22 := H3.out.cell 2 rfl 22 rfl
        rw [hF] at e22
        have e2 := H3.out.cell 2 rfl 2 rfl
        rw [hC] at e2
        have e3 := H3.out.cell 2 rfl 3 rfl
        have e4 := H3.out.cell 2 rfl 4 rfl
        have e5 := H3.out.cell 2 rfl 5 rfl
        have e6 := H3.out.cell 2 rfl 6 rfl
        have e0 := H3.out.cell 2 rfl 0 rfl
        have e1 := H3.out.cell 2 rfl 1 rfl
        have e23 := H3.out.cell 2 rfl 23 rfl
        have e24 := H3.out.cell 2 rfl 24 rfl
        obtain ⟨q0, q1, q2, q3⟩ := box4 (H3.out.box 3 rfl)
        have qf0 := H3.out.frozen 3 rfl 0
        have qf1 := H3.out.frozen 3 rfl 1
        have qf2 := H3.out.frozen 3 rfl 2
        have qf3 := H3.out.frozen 3 rfl 3
        clear hF hC
        have H4 : Hid (Bag w ((((W3.setCell ⟨W2.heap.size, 0, none⟩ (.int .i64 a.x0)).setCell ⟨W2.heap.size, 1, none⟩ (.int .i64 a.y0)).setCell ⟨W2.heap.size, 2, none⟩ (.int .i64 a.x1)).setCell ⟨W2.heap.size, 3, none⟩ (.int .i64 a.y1)) [(w.heap.size, [.int .i64 i0, .int .i64 i1, .int .i64 k.dx, .int .i64 k.dy, .bool k.hasC, .int .i64 k.clip.x0, .int .i64 k.clip.y0, .int .i64 k.clip.x1, .int .i64 k.clip.y1, .int .i64 k.opa, .int .i64 k.mode, .int .i64 k.ct.kind, .int .i64 k.ct.box.x0, .int .i64 k.ct.box.y0, .int .i64 k.ct.box.x1, .int .i64 k.ct.box.y1, .int .u8 k.ct.px.r, .int .u8 k.ct.px.g, .int .u8 k.ct.px.b, .int .u8 k.ct.px.a, .int .i64 k.ct.w, .int .i64 k.ct.h, .int .i64 k.ct.turn, .slice pa pn pc, .bool k.hasF, .slice fa fn fc, .int .i64 k.fil.out, .bool k.hasB, .slice ba bn bc, .int .i64 k.bak.out, .slice ka kn kc]), (w.heap.size + 1, cl4 ⟨0, 0, 0, 0⟩), (w.heap.size + 1 + 1, [.int .i64 k.dx, .int .i64 k.dy, .bool k.hasC, .int .i64 k.clip.x0, .int .i64 k.clip.y0, .int .i64 k.clip.x1, .int .i64 k.clip.y1, .int .i64 k.opa, .int .i64 k.mode, .int .i64 k.ct.kind, .int .i64 k.ct.box.x0, .int .i64 k.ct.box.y0, .int .i64 k.ct.box.x1, .int .i64 k.ct.box.y1, .int .u8 k.ct.px.r, .int .u8 k.ct.px.g, .int .u8 k.ct.px.b, .int .u8 k.ct.px.a, .int .i64 k.ct.w, .int .i64 k.ct.h, .int .i64 k.ct.turn, .slice pa pn pc, .bool k.hasF, .slice fa fn fc, .int .i64 k.fil.out, .bool k.hasB, .slice ba bn bc, .int .i64 k.bak.out]), (W2.heap.size, cl4 a)]) := H3.out.set4 3 rfl _ _ _ _
        go_upto_region 7 with (fail)
        generalize ((((W3.setCell ⟨W2.heap.size, 0, none⟩ (.int .i64 a.x0)).setCell ⟨W2.heap.size, 1, none⟩ (.int .i64 a.y0)).setCell ⟨W2.heap.size, 2, none⟩ (.int .i64 a.x1)).setCell ⟨W2.heap.size, 3, none⟩ (.int .i64 a.y1)) = W4 at *
        clear H3 e22 e2 e3 e4 e5 e6 e0 e1 e23 e24 q0 q1 q2 q3 qf0 qf1 qf2 qf3
        have hF := HHF.out.1
        have hC := HHF.out.2
        have e22 := H4.out.cell 2 rfl 22 rfl
        rw [hF] at e22
        have e2 := H4.out.cell 2 rfl 2 rfl
        rw [hC] at e2
        have e3 := H4.out.cell 2 rfl 3 rfl
        have e4 := H4.out.cell 2 rfl 4 rfl
        have e5 := H4.out.cell 2 rfl 5 rfl
        have e6 := H4.out.cell 2 rfl 6 rfl
        have e0 := H4.out.cell 2 rfl 0 rfl
        have e1 := H4.out.cell 2 rfl 1 rfl
        have e23 := H4.out.cell 2 rfl 23 rfl
        have e24 := H4.out.cell 2 rfl 24 rfl
        obtain ⟨q0, q1, q2, q3⟩ := box4 (H4.out.box 3 rfl)
        have qf0 := H4.out.frozen 3 rfl 0
        have qf1 := H4.out.frozen 3 rfl 1
        have qf2 := H4.out.frozen 3 rfl 2
        have qf3 := H4.out.frozen 3 rfl 3
        clear hF hC
        go_wp2_with fail
        refine (HME.out _).mono ?_; rintro e W5 ⟨rfl, hb5⟩
        have H5 := Lib.hid (H4.out.call hb5)
        clear hb5 H4 e22 e2 e3 e4 e5 e6 e0 e1 e23 e24 q0 q1 q2 q3 qf0 qf1 qf2 qf3
        have hF := HHF.out.1
        have hC := HHF.out.2
        have e22 := H5.out.cell 2 rfl 22 rfl
        rw [hF] at e22
        have e2 := H5.out.cell 2 rfl 2 rfl
        rw [hC] at e2
        have e3 := H5.out.cell 2 rfl 3 rfl
        have e4 := H5.out.cell 2 rfl 4 rfl
        have e5 := H5.out.cell 2 rfl 5 rfl
        have e6 := H5.out.cell 2 rfl 6 rfl
        have e0 := H5.out.cell 2 rfl 0 rfl
        have e1 := H5.out.cell 2 rfl 1 rfl
        have e23 := H5.out.cell 2 rfl 23 rfl
        have e24 := H5.out.cell 2 rfl 24 rfl
        obtain ⟨q0, q1, q2, q3⟩ := box4 (H5.out.box 3 rfl)
        have qf0 := H5.out.frozen 3 rfl 0
        have qf1 := H5.out.frozen 3 rfl 1
        have qf2 := H5.out.frozen 3 rfl 2
        have qf3 := H5.out.frozen 3 rfl 3
        clear hF hC
        have H6 : Hid (Bag w ((((W5.setCell ⟨W2.heap.size, 0, none⟩ (.int .i64 b.x0)).setCell ⟨W2.heap.size, 1, none⟩ (.int .i64 b.y0)).setCell ⟨W2.heap.size, 2, none⟩ (.int .i64 b.x1)).setCell ⟨W2.heap.size, 3, none⟩ (.int .i64 b.y1)) [(w.heap.size, [.int .i64 i0, .int .i64 i1, .int .i64 k.dx, .int .i64 k.dy, .bool k.hasC, .int .i64 k.clip.x0, .int .i64 k.clip.y0, .int .i64 k.clip.x1, .int .i64 k.clip.y1, .int .i64 k.opa, .int .i64 k.mode, .int .i64 k.ct.kind, .int .i64 k.ct.box.x0, .int .i64 k.ct.box.y0, .int .i64 k.ct.box.x1, .int .i64 k.ct.box.y1, .int .u8 k.ct.px.r, .int .u8 k.ct.px.g, .int .u8 k.ct.px.b, .int .u8 k.ct.px.a, .int .i64 k.ct.w, .int .i64 k.ct.h, .int .i64 k.ct.turn, .slice pa pn pc, .bool k.hasF, .slice fa fn fc, .int .i64 k.fil.out, .bool k.hasB, .slice ba bn bc, .int .i64 k.bak.out, .slice ka kn kc]), (w.heap.size + 1, cl4 ⟨0, 0, 0, 0⟩), (w.heap.size + 1 + 1, [.int .i64 k.dx, .int .i64 k.dy, .bool k.hasC, .int .i64 k.clip.x0, .int .i64 k.clip.y0, .int .i64 k.clip.x1, .int .i64 k.clip.y1, .int .i64 k.opa, .int .i64 k.mode, .int .i64 k.ct.kind, .int .i64 k.ct.box.x0, .int .i64 k.ct.box.y0, .int .i64 k.ct.box.x1, .int .i64 k.ct.box.y1, .int .u8 k.ct.px.r, .int .u8 k.ct.px.g, .int .u8 k.ct.px.b, .int .u8 k.ct.px.a, .int .i64 k.ct.w, .int .i64 k.ct.h, .int .i64 k.ct.turn, .slice pa pn pc, .bool k.hasF, .slice fa fn fc, .int .i64 k.fil.out, .bool k.hasB, .slice ba bn bc, .int .i64 k.bak.out]), (W2.heap.size, cl4 b)]) := H5.out.set4 3 rfl _ _ _ _
        go_upto_region 9 with (fail)
        generalize ((((W5.setCell ⟨W2.heap.size, 0, none⟩ (.int .i64 b.x0)).setCell ⟨W2.heap.size, 1, none⟩ (.int .i64 b.y0)).setCell ⟨W2.heap.size, 2, none⟩ (.int .i64 b.x1)).setCell ⟨W2.heap.size, 3, none⟩ (.int .i64 b.y1)) = W6 at *
        clear H5 e22 e2 e3 e4 e5 e6 e0 e1 e23 e24 q0 q1 q2 q3 qf0 qf1 qf2 qf3
        have hF := HHF.out.1
        have hC := HHF.out.2
        have e22 := H6.out.cell 2 rfl 22 rfl
        rw [hF] at e22
        have e2 := H6.out.cell 2 rfl 2 rfl
        rw [hC] at e2
        have e3 := H6.out.cell 2 rfl 3 rfl
        have e4 := H6.out.cell 2 rfl 4 rfl
        have e5 := H6.out.cell 2 rfl 5 rfl
        have e6 := H6.out.cell 2 rfl 6 rfl
        have e0 := H6.out.cell 2 rfl 0 rfl
        have e1 := H6.out.cell 2 rfl 1 rfl
        have e23 := H6.out.cell 2 rfl 23 rfl
        have e24 := H6.out.cell 2 rfl 24 rfl
        obtain ⟨q0, q1, q2, q3⟩ := box4 (H6.out.box 3 rfl)
        have qf0 := H6.out.frozen 3 rfl 0
        have qf1 := H6.out.frozen 3 rfl 1
        have qf2 := H6.out.frozen 3 rfl 2
        have qf3 := H6.out.frozen 3 rfl 3
        clear hF hC
        go_wp2_with fail
        refine (HMV.out _).mono ?_; rintro e W7 ⟨rfl, hb7⟩
        have H7 := Lib.hid (H6.out.call hb7)
        clear hb7 H6 e22 e2 e3 e4 e5 e6 e0 e1 e23 e24 q0 q1 q2 q3 qf0 qf1 qf2 qf3
        obtain ⟨r0, r1, r2, r3⟩ := box4 (H7.out.box 1 rfl)
        have f0 := H7.out.frozen 1 rfl 0
        have f1 := H7.out.frozen 1 rfl 1
        have f2 := H7.out.frozen 1 rfl 2
        have f3 := H7.out.frozen 1 rfl 3
        go_wp2_with fail
        have HF := H7.out.set4 1 rfl (.int .i64 R.x0) (.int .i64 R.y0) (.int .i64 R.x1) (.int .i64 R.y1)
        exact ret_rect (g := w.heap.size + 1) (r := R) rfl rfl (HF.box 1 rfl) rfl ⟨rfl, HF.below⟩
theorem result_c : ∀ n, ResC n
  | 0 => fun B l cs w h => h.elim
  | n + 1 => result_step n (group_step n (result_c n))
theorem group_c (n : Nat) : GrpC n := group_step n (result_c n)
end Go.Proofs.YtgodhpampaleeaaDoor
