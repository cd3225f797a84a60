/- Texts joined: XEp. -/
import Derived.Test.YtgodhpampaleeaaDoorEo
import Derived.Test.YtgodhpampaleeaaDoorEm
set_option maxRecDepth 4000
/- Layer 24: of whatever right content: what it shows at whatever point. (Printed by mk_ep.py.) -/
namespace Go.Proofs.YtgodhpampaleeaaDoor
open Go.RowKit Go.Bx Go.Od Go.Hp Go.ChangeShapes Go.WideShapes Go.ChangeAt
attribute [local go_sem ↓] Go.wp_at_zero Go.wp_at_succ
set_option linter.unusedVariables false

set_option maxRecDepth 8000 in
set_option maxHeartbeats 12800000 in
theorem extentPixels_walk (l : Ly) (n : Nat) (cs : List Value) (x y : Int) (w : World) (ht : Tabs w) (hl : RLy (n + 1) (· < w.heap.size) w cs l) : Calls Tryd.prog 3 #[.agg cs.toArray, .int .i64 x, .int .i64 y] w (TPost w) := by
  have HRG : Hid (∀ W, Below w.heap.size w W → Calls Tryd.prog 6 #[.agg cs.toArray, .int .i64 0] W (PPost W (.bool (rightN (n + 1) 0 l)))) := fun W hb =>
    right24_c (n + 1) w.heap.size l cs 0 W ((RLy.ok (n + 1)).same (Same.of_below hb fun b h => h) hl) hb.size (ht.below hb) (by omega) (by omega)
  have HOK : Hid (rightN (n + 1) 0 l = true → LyOk (n + 1) l) := rightN_ok (n + 1) 0 l _ w cs hl
  obtain ⟨pv, fv, bv, kv, rfl, _, _, hA, hK⟩ := hl
  obtain ⟨rg, hrg⟩ : ∃ r, r = rightN (n + 1) 0 l := ⟨_, rfl⟩
  rw [← hrg] at HRG HOK
  obtain ⟨k, hk⟩ : ∃ k, k = l.look := ⟨_, rfl⟩
  obtain ⟨i0, hi0⟩ : ∃ k, k = l.i0 := ⟨_, rfl⟩
  obtain ⟨i1, hi1⟩ : ∃ k, k = l.i1 := ⟨_, rfl⟩
  have HLK : Hid (rg = true → LkOk k) := by
    have : rg = true → LkOk k := fun e => by rw [hk]; exact (HOK.out e).1
    exact this
  rw [← hk] at HRG hA
  rw [← hi0, ← hi1] at HRG
  rw [← hk, ← hi0, ← hi1]
  obtain ⟨pa, pn, pc, rfl⟩ := sl_form hA.2.1
  obtain ⟨fa, fn, fc, rfl⟩ := sl_form hA.2.2.1
  obtain ⟨ba, bn, bc, rfl⟩ := sl_form hA.2.2.2
  obtain ⟨ka, kn, kc, rfl⟩ := sl_form hK
  have HA : Hid (LkAt (· < w.heap.size) w k (.slice pa pn pc) (.slice fa fn fc) (.slice ba bn bc)) := hA
  have HRG2 : Hid (∀ W, Below w.heap.size w W → Calls Tryd.prog 6 #[.agg #[.int .i64 i0, .int .i64 i1, .int .i64 k.dx, .int .i64 k.dy, .bool k.hasC, .int .i64 k.clip.x0, .int .i64 k.clip.y0, .int .i64 k.clip.x1, .int .i64 k.clip.y1, .int .i64 k.opa, .int .i64 k.mode, .int .i64 k.ct.kind, .int .i64 k.ct.box.x0, .int .i64 k.ct.box.y0, .int .i64 k.ct.box.x1, .int .i64 k.ct.box.y1, .int .u8 k.ct.px.r, .int .u8 k.ct.px.g, .int .u8 k.ct.px.b, .int .u8 k.ct.px.a, .int .i64 k.ct.w, .int .i64 k.ct.h, .int .i64 k.ct.turn, .slice pa pn pc, .bool k.hasF, .slice fa fn fc, .int .i64 k.fil.out, .bool k.hasB, .slice ba bn bc, .int .i64 k.bak.out, .slice ka kn kc], .int .i64 0] W (PPost W (.bool rg))) := HRG.out
  have H0 : Hid (Bag w (w.alloc (.cells #[.int .i64 i0, .int .i64 i1, .int .i64 k.dx, .int .i64 k.dy, .bool k.hasC, .int .i64 k.clip.x0, .int .i64 k.clip.y0, .int .i64 k.clip.x1, .int .i64 k.clip.y1, .int .i64 k.opa, .int .i64 k.mode, .int .i64 k.ct.kind, .int .i64 k.ct.box.x0, .int .i64 k.ct.box.y0, .int .i64 k.ct.box.x1, .int .i64 k.ct.box.y1, .int .u8 k.ct.px.r, .int .u8 k.ct.px.g, .int .u8 k.ct.px.b, .int .u8 k.ct.px.a, .int .i64 k.ct.w, .int .i64 k.ct.h, .int .i64 k.ct.turn, .slice pa pn pc, .bool k.hasF, .slice fa fn fc, .int .i64 k.fil.out, .bool k.hasB, .slice ba bn bc, .int .i64 k.bak.out, .slice ka kn kc] 38)) [(w.heap.size, [.int .i64 i0, .int .i64 i1, .int .i64 k.dx, .int .i64 k.dy, .bool k.hasC, .int .i64 k.clip.x0, .int .i64 k.clip.y0, .int .i64 k.clip.x1, .int .i64 k.clip.y1, .int .i64 k.opa, .int .i64 k.mode, .int .i64 k.ct.kind, .int .i64 k.ct.box.x0, .int .i64 k.ct.box.y0, .int .i64 k.ct.box.x1, .int .i64 k.ct.box.y1, .int .u8 k.ct.px.r, .int .u8 k.ct.px.g, .int .u8 k.ct.px.b, .int .u8 k.ct.px.a, .int .i64 k.ct.w, .int .i64 k.ct.h, .int .i64 k.ct.turn, .slice pa pn pc, .bool k.hasF, .slice fa fn fc, .int .i64 k.fil.out, .bool k.hasB, .slice ba bn bc, .int .i64 k.bak.out, .slice ka kn kc])]) := bag1 w [.int .i64 i0, .int .i64 i1, .int .i64 k.dx, .int .i64 k.dy, .bool k.hasC, .int .i64 k.clip.x0, .int .i64 k.clip.y0, .int .i64 k.clip.x1, .int .i64 k.clip.y1, .int .i64 k.opa, .int .i64 k.mode, .int .i64 k.ct.kind, .int .i64 k.ct.box.x0, .int .i64 k.ct.box.y0, .int .i64 k.ct.box.x1, .int .i64 k.ct.box.y1, .int .u8 k.ct.px.r, .int .u8 k.ct.px.g, .int .u8 k.ct.px.b, .int .u8 k.ct.px.a, .int .i64 k.ct.w, .int .i64 k.ct.h, .int .i64 k.ct.turn, .slice pa pn pc, .bool k.hasF, .slice fa fn fc, .int .i64 k.fil.out, .bool k.hasB, .slice ba bn bc, .int .i64 k.bak.out, .slice ka kn kc] _
  clear HRG HOK hrg hk hi0 hi1 hA hK ht
  go_enter Tryd.func3, Tryd.ntmps3
  go_wp2_with fail
  generalize (w.alloc (.cells #[.int .i64 i0, .int .i64 i1, .int .i64 k.dx, .int .i64 k.dy, .bool k.hasC, .int .i64 k.clip.x0, .int .i64 k.clip.y0, .int .i64 k.clip.x1, .int .i64 k.clip.y1, .int .i64 k.opa, .int .i64 k.mode, .int .i64 k.ct.kind, .int .i64 k.ct.box.x0, .int .i64 k.ct.box.y0, .int .i64 k.ct.box.x1, .int .i64 k.ct.box.y1, .int .u8 k.ct.px.r, .int .u8 k.ct.px.g, .int .u8 k.ct.px.b, .int .u8 k.ct.px.a, .int .i64 k.ct.w, .int .i64 k.ct.h, .int .i64 k.ct.turn, .slice pa pn pc, .bool k.hasF, .slice fa fn fc, .int .i64 k.fil.out, .bool k.hasB, .slice ba bn bc, .int .i64 k.bak.out, .slice ka kn kc] 38)) = W0 at *
  refine (awake24_c W0).mono ?_; rintro e W1 ⟨rfl, hb1⟩
  have H1 : Hid (Bag w W1 [(w.heap.size, [.int .i64 i0, .int .i64 i1, .int .i64 k.dx, .int .i64 k.dy, .bool k.hasC, .int .i64 k.clip.x0, .int .i64 k.clip.y0, .int .i64 k.clip.x1, .int .i64 k.clip.y1, .int .i64 k.opa, .int .i64 k.mode, .int .i64 k.ct.kind, .int .i64 k.ct.box.x0, .int .i64 k.ct.box.y0, .int .i64 k.ct.box.x1, .int .i64 k.ct.box.y1, .int .u8 k.ct.px.r, .int .u8 k.ct.px.g, .int .u8 k.ct.px.b, .int .u8 k.ct.px.a, .int .i64 k.ct.w, .int .i64 k.ct.h, .int .i64 k.ct.turn, .slice pa pn pc, .bool k.hasF, .slice fa fn fc, .int .i64 k.fil.out, .bool k.hasB, .slice ba bn bc, .int .i64 k.bak.out, .slice ka kn kc])]) := H0.out.call hb1
  have HR1 : Hid (W1.rangeAt w.heap.size 0 [.int .i64 i0, .int .i64 i1, .int .i64 k.dx, .int .i64 k.dy, .bool k.hasC, .int .i64 k.clip.x0, .int .i64 k.clip.y0, .int .i64 k.clip.x1, .int .i64 k.clip.y1, .int .i64 k.opa, .int .i64 k.mode, .int .i64 k.ct.kind, .int .i64 k.ct.box.x0, .int .i64 k.ct.box.y0, .int .i64 k.ct.box.x1, .int .i64 k.ct.box.y1, .int .u8 k.ct.px.r, .int .u8 k.ct.px.g, .int .u8 k.ct.px.b, .int .u8 k.ct.px.a, .int .i64 k.ct.w, .int .i64 k.ct.h, .int .i64 k.ct.turn, .slice pa pn pc, .bool k.hasF, .slice fa fn fc, .int .i64 k.fil.out, .bool k.hasB, .slice ba bn bc, .int .i64 k.bak.out, .slice ka kn kc]) := H1.out.range 0 rfl 0 31
  clear hb1 H0
  go_wp2_with (with_reducible refine wpList_load_want rfl 38 _ rfl w.heap.size 0 rfl [.int .i64 i0, .int .i64 i1, .int .i64 k.dx, .int .i64 k.dy, .bool k.hasC, .int .i64 k.clip.x0, .int .i64 k.clip.y0, .int .i64 k.clip.x1, .int .i64 k.clip.y1, .int .i64 k.opa, .int .i64 k.mode, .int .i64 k.ct.kind, .int .i64 k.ct.box.x0, .int .i64 k.ct.box.y0, .int .i64 k.ct.box.x1, .int .i64 k.ct.box.y1, .int .u8 k.ct.px.r, .int .u8 k.ct.px.g, .int .u8 k.ct.px.b, .int .u8 k.ct.px.a, .int .i64 k.ct.w, .int .i64 k.ct.h, .int .i64 k.ct.turn, .slice pa pn pc, .bool k.hasF, .slice fa fn fc, .int .i64 k.fil.out, .bool k.hasB, .slice ba bn bc, .int .i64 k.bak.out, .slice ka kn kc] _ HR1.out Tryd.underlying38 rfl (by kernel_rfl) ?_; simp only [Act.put, List.setIfInBounds_toArray, List.set_cons_succ, List.set_cons_zero])
  refine (HRG2.out W1 H1.out.below).mono ?_; rintro e W2 ⟨rfl, hb2⟩
  have H2 : Hid (Bag w W2 [(w.heap.size, [.int .i64 i0, .int .i64 i1, .int .i64 k.dx, .int .i64 k.dy, .bool k.hasC, .int .i64 k.clip.x0, .int .i64 k.clip.y0, .int .i64 k.clip.x1, .int .i64 k.clip.y1, .int .i64 k.opa, .int .i64 k.mode, .int .i64 k.ct.kind, .int .i64 k.ct.box.x0, .int .i64 k.ct.box.y0, .int .i64 k.ct.box.x1, .int .i64 k.ct.box.y1, .int .u8 k.ct.px.r, .int .u8 k.ct.px.g, .int .u8 k.ct.px.b, .int .u8 k.ct.px.a, .int .i64 k.ct.w, .int .i64 k.ct.h, .int .i64 k.ct.turn, .slice pa pn pc, .bool k.hasF, .slice fa fn fc, .int .i64 k.fil.out, .bool k.hasB, .slice ba bn bc, .int .i64 k.bak.out, .slice ka kn kc])]) := H1.out.call hb2
  clear hb2 H1 HR1 HRG2
  cases rg with
  | false =>
    go_wp2_with fail
    refine (awake24_c W2).mono ?_; rintro e W3 ⟨rfl, hb3⟩
    have HB : Hid (Below w.heap.size w W3) := H2.out.below.trans (hb3.mono H2.out.below.size)
    clear hb3
    go_wp2_with fail
    go_ret
    exact ⟨rfl, HB.out⟩
  | true =>
  have HLK2 : Hid (LkOk k) := HLK.out rfl
  clear HLK
  by_cases t0 : x < -16777216
  · have d0 : decide (x < -16777216) = true := decide_eq_true t0
    clear t0
    go_wp2_with fail
    refine (awake24_c W2).mono ?_; rintro e W3 ⟨rfl, hb3⟩
    have HB : Hid (Below w.heap.size w W3) := H2.out.below.trans (hb3.mono H2.out.below.size)
    clear hb3
    go_wp2_with fail
    go_ret
    exact ⟨rfl, HB.out⟩
  have d0 : decide (x < -16777216) = false := decide_eq_false t0
  by_cases t1 : 16777216 < x
  · have d1 : decide (16777216 < x) = true := decide_eq_true t1
    clear t0 t1
    go_wp2_with fail
    refine (awake24_c W2).mono ?_; rintro e W3 ⟨rfl, hb3⟩
    have HB : Hid (Below w.heap.size w W3) := H2.out.below.trans (hb3.mono H2.out.below.size)
    clear hb3
    go_wp2_with fail
    go_ret
    exact ⟨rfl, HB.out⟩
  have d1 : decide (16777216 < x) = false := decide_eq_false t1
  by_cases t2 : y < -16777216
  · have d2 : decide (y < -16777216) = true := decide_eq_true t2
    clear t0 t1 t2
    go_wp2_with fail
    refine (awake24_c W2).mono ?_; rintro e W3 ⟨rfl, hb3⟩
    have HB : Hid (Below w.heap.size w W3) := H2.out.below.trans (hb3.mono H2.out.below.size)
    clear hb3
    go_wp2_with fail
    go_ret
    exact ⟨rfl, HB.out⟩
  have d2 : decide (y < -16777216) = false := decide_eq_false t2
  by_cases t3 : 16777216 < y
  · have d3 : decide (16777216 < y) = true := decide_eq_true t3
    clear t0 t1 t2 t3
    go_wp2_with fail
    refine (awake24_c W2).mono ?_; rintro e W3 ⟨rfl, hb3⟩
    have HB : Hid (Below w.heap.size w W3) := H2.out.below.trans (hb3.mono H2.out.below.size)
    clear hb3
    go_wp2_with fail
    go_ret
    exact ⟨rfl, HB.out⟩
  have d3 : decide (16777216 < y) = false := decide_eq_false t3
  obtain ⟨z, hz⟩ : ∃ z, z = pixR k.ct x y := ⟨_, rfl⟩
  have HP : Hid (∀ s : Kept W2.heap.size W2, Calls Tryd.prog 7 #[.agg #[.int .i64 k.ct.kind, .int .i64 k.ct.box.x0, .int .i64 k.ct.box.y0, .int .i64 k.ct.box.x1, .int .i64 k.ct.box.y1, .int .u8 k.ct.px.r, .int .u8 k.ct.px.g, .int .u8 k.ct.px.b, .int .u8 k.ct.px.a, .int .i64 k.ct.w, .int .i64 k.ct.h, .int .i64 k.ct.turn, .slice pa pn pc], .int .i64 x, .int .i64 y] s.w (PPost s.w (.agg #[.int .u8 z.r, .int .u8 z.g, .int .u8 z.b, .int .u8 z.a]))) := fun s => by
    rw [hz]
    have hb := H2.out.below.trans (s.below.mono H2.out.below.size)
    exact pixel24_c w.heap.size k.ct (.slice pa pn pc) x y s.w HLK2.out.ct ((HA.out.same (Same.of_below hb fun b h => h)).2.1) hb.size (by omega) (by omega)
  have HQ : Hid (∀ s : Kept W2.heap.size W2, Calls Tryd.prog 8 #[.agg #[.int .i64 k.ct.kind, .int .i64 k.ct.box.x0, .int .i64 k.ct.box.y0, .int .i64 k.ct.box.x1, .int .i64 k.ct.box.y1, .int .u8 k.ct.px.r, .int .u8 k.ct.px.g, .int .u8 k.ct.px.b, .int .u8 k.ct.px.a, .int .i64 k.ct.w, .int .i64 k.ct.h, .int .i64 k.ct.turn, .slice pa pn pc], .int .i64 x, .int .i64 y] s.w (PPost s.w (.agg #[.int .u8 z.r, .int .u8 z.g, .int .u8 z.b, .int .u8 z.a]))) := fun s => by
    rw [hz]
    have hb := H2.out.below.trans (s.below.mono H2.out.below.size)
    exact rpixel_c w.heap.size k.ct (.slice pa pn pc) x y s.w HLK2.out.ct ((HA.out.same (Same.of_below hb fun b h => h)).2.1) hb.size (by omega) (by omega)
  have hq : ∀ W, (binOp .eql 27 (.agg #[.int .u8 z.r, .int .u8 z.g, .int .u8 z.b, .int .u8 z.a]) (.agg #[.int .u8 z.r, .int .u8 z.g, .int .u8 z.b, .int .u8 z.a])).run Tryd.prog W = .ok (.bool true) W := fun W => by
    have h := eqlPx z z W
    rw [(pxEq_iff z z).2 rfl] at h
    exact h
  have HL : Hid (∀ w', (∃ s : Kept W2.heap.size W2, w' = s.w) → w'.rangeAt w.heap.size 11 [.int .i64 k.ct.kind, .int .i64 k.ct.box.x0, .int .i64 k.ct.box.y0, .int .i64 k.ct.box.x1, .int .i64 k.ct.box.y1, .int .u8 k.ct.px.r, .int .u8 k.ct.px.g, .int .u8 k.ct.px.b, .int .u8 k.ct.px.a, .int .i64 k.ct.w, .int .i64 k.ct.h, .int .i64 k.ct.turn, .slice pa pn pc]) := fun w' ⟨s, hs⟩ => by rw [hs]; exact (H2.out.call s.below).range 0 rfl 11 13
  clear hz t0 t1 t2 t3
  go_wp2_with fail
  refine wp_region_kept W2.heap.size (by kernel_rfl) (by kernel_rfl) ?_
  iterate 2 (go_big_quiet_step (first
    | (go_at_call 7; with_reducible exact Calls.kept _ (Nat.le_refl _) (HP.out _))
    | (go_at_call 8; with_reducible exact Calls.kept _ (Nat.le_refl _) (HQ.out _))))
  refine wpQuiet_load rfl 30 _ rfl w.heap.size 11 rfl _ _ HL.out Tryd.underlying30 rfl (by kernel_rfl) ?_
  simp only [Act.put, List.setIfInBounds_toArray, List.set_cons_succ, List.set_cons_zero]
  iterate 5 (go_big_quiet_step (first
    | (go_at_call 7; with_reducible exact Calls.kept _ (Nat.le_refl _) (HP.out _))
    | (go_at_call 8; with_reducible exact Calls.kept _ (Nat.le_refl _) (HQ.out _))))
  refine wpQuiet_load rfl 30 _ rfl w.heap.size 11 rfl _ _ HL.out Tryd.underlying30 rfl (by kernel_rfl) ?_
  simp only [Act.put, List.setIfInBounds_toArray, List.set_cons_succ, List.set_cons_zero]
  repeat (go_big_quiet_step (first
    | (go_at_call 7; with_reducible exact Calls.kept _ (Nat.le_refl _) (HP.out _))
    | (go_at_call 8; with_reducible exact Calls.kept _ (Nat.le_refl _) (HQ.out _))))
  refine wpQuiet_nil ?_
  rintro _ ⟨s, rfl⟩
  have HE : Hid (Below w.heap.size w s.w) := H2.out.below.trans (s.below.mono H2.out.below.size)
  go_wp2_with fail
  go_ret
  exact ⟨rfl, HE.out⟩
section
variable {H : Type} {enc : TypeId × Value → H} {W : World} {base : Nat}
theorem int24_arg {v : Value} {d : DataW H} {p : List MemPlace} (h : DataW.Trod enc Tryd.prog W 0 (fun _ => true) true 3 v d p) (hv : Value.okWide Tryd.prog W .any base 3 v) : ∃ a : Int, v = .int .i64 a := by
  obtain ⟨a, rfl, _⟩ := open_int Tryd.underlying3 hv h
  exact ⟨a, rfl⟩
theorem layer24_arg {v : Value} {d : DataW H} {p : List MemPlace} (h : DataW.Trod enc Tryd.prog W 0 (fun _ => true) true 38 v d p) (hv : Value.okWide Tryd.prog W .any base 38 v) : ∃ (l : Ly) (n : Nat) (cs : List Value), v = .agg cs.toArray ∧ RLy (n + 1) (· < W.heap.size) W cs l := by
  obtain ⟨l, n, pv, fv, bv, kv, h1, h2, h3, h4, h5⟩ := layer_arg h hv
  exact ⟨l, n, _, h1, pv, fv, bv, kv, rfl, h2, h3, h4, h5⟩
theorem extentPixels.extentPixels_law (W : World) (ht : Tabs W) {v0 v1 v2 : Value} {d0 d1 d2 : DataW H} {p0 p1 p2 : List MemPlace}
    (h0 : DataW.Trod enc Tryd.prog W 0 (fun _ => true) true 38 v0 d0 p0) (h1 : DataW.Trod enc Tryd.prog W 0 (fun _ => true) true 3 v1 d1 p1) (h2 : DataW.Trod enc Tryd.prog W 0 (fun _ => true) true 3 v2 d2 p2)
    (k0 : Value.okWide Tryd.prog W .any base 38 v0) (k1 : Value.okWide Tryd.prog W .any base 3 v1) (k2 : Value.okWide Tryd.prog W .any base 3 v2) :
    Calls Tryd.prog 3 #[v0, v1, v2] W (TPost W) := by
  obtain ⟨l, n, cs, rfl, hl⟩ := layer24_arg h0 k0
  obtain ⟨x, rfl⟩ := int24_arg h1 k1
  obtain ⟨y, rfl⟩ := int24_arg h2 k2
  exact extentPixels_walk l n cs x y W ht hl
end
end Go.Proofs.YtgodhpampaleeaaDoor
