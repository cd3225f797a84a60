/- Texts joined: XEl. -/
import Derived.Test.YtgodhpampaleeaaDoorEh
import Derived.Test.YtgodhpampaleeaaDoorBag
import Derived.Test.YtgodhpampaleeaaDoorAf
import Derived.Test.YtgodhpampaleeaaDoorAc
set_option maxRecDepth 4000
/- Layer 23, the document's answer: near, rect, Content. (Printed by mk_el.py.) -/
namespace Go.Proofs.YtgodhpampaleeaaDoor
open Go.RowKit Go.Bx Go.Od Go.Hp
attribute [local go_sem ↓] Go.wp_at_zero Go.wp_at_succ
set_option linter.unusedVariables false

def ncB (x : Int) : Bool := decide (-1048576 ≤ x) && decide (x ≤ 1048576)
theorem ncB_iff (x : Int) : ncB x = true ↔ Nc x := by simp [ncB, Nc]
theorem near23_c (x : Int) (w : World) : Calls Tryd.prog 28 #[.int .i64 x] w (PPost w (.bool (ncB x))) := by
  obtain ⟨d0, h0⟩ : ∃ d, decide (-1048576 ≤ x) = d := ⟨_, rfl⟩
  obtain ⟨d1, h1⟩ : ∃ d, decide (x ≤ 1048576) = d := ⟨_, rfl⟩
  have HE : Hid (ncB x = (d0 && d1)) := by
    have : ncB x = (d0 && d1) := by unfold ncB; rw [h0, h1]
    exact this
  cases d0 with
  | false =>
    go_enter Tryd.func28, Tryd.ntmps28
    go_wp2_with fail
    go_ret
    exact ⟨ret_b HE.out.symm, Below.refl _ _⟩
  | true =>
    cases d1 with
    | false =>
      go_enter Tryd.func28, Tryd.ntmps28
      go_wp2_with fail
      go_ret
      exact ⟨ret_b HE.out.symm, Below.refl _ _⟩
    | true =>
      go_enter Tryd.func28, Tryd.ntmps28
      go_wp2_with fail
      go_ret
      exact ⟨ret_b HE.out.symm, Below.refl _ _⟩
def rcNB (r : Rc) : Bool := ncB r.x0 && (ncB r.y0 && (ncB r.x1 && ncB r.y1))
theorem rcNB_iff (r : Rc) : rcNB r = true ↔ RcN r := by
  unfold rcNB RcN
  simp only [Bool.and_eq_true, ncB_iff]
set_option maxHeartbeats 1600000 in
theorem rect23_c (r : Rc) (w : World) : Calls Tryd.prog 26 #[rv r] w (PPost w (.bool (rcNB r))) := by
  obtain ⟨x0, y0, x1, y1⟩ := r
  have HX : Hid (Box (w.alloc (.cells (cs4 x0 y0 x1 y1) 25)) w.heap.size (cl4 ⟨x0, y0, x1, y1⟩) ∧ Below w.heap.size w (w.alloc (.cells (cs4 x0 y0 x1 y1) 25))) := ⟨Box.new w _ _, below_new _ _⟩
  obtain ⟨d0, h0⟩ : ∃ d, ncB x0 = d := ⟨_, rfl⟩
  obtain ⟨d1, h1⟩ : ∃ d, ncB y0 = d := ⟨_, rfl⟩
  obtain ⟨d2, h2⟩ : ∃ d, ncB x1 = d := ⟨_, rfl⟩
  obtain ⟨d3, h3⟩ : ∃ d, ncB y1 = d := ⟨_, rfl⟩
  have HE : Hid (rcNB ⟨x0, y0, x1, y1⟩ = (d0 && (d1 && (d2 && d3)))) := by
    have : rcNB ⟨x0, y0, x1, y1⟩ = (d0 && (d1 && (d2 && d3))) := by unfold rcNB; rw [h0, h1, h2, h3]
    exact this
  have HN : Hid (∀ (W : World), Calls Tryd.prog 28 #[.int .i64 x0] W (PPost W (.bool d0)) ∧ Calls Tryd.prog 28 #[.int .i64 y0] W (PPost W (.bool d1)) ∧ Calls Tryd.prog 28 #[.int .i64 x1] W (PPost W (.bool d2)) ∧ Calls Tryd.prog 28 #[.int .i64 y1] W (PPost W (.bool d3))) := fun W => by
    rw [← h0, ← h1, ← h2, ← h3]
    exact ⟨near23_c _ W, near23_c _ W, near23_c _ W, near23_c _ W⟩
  clear h0 h1 h2 h3
  have g0 := HX.out.1.cell 0 rfl
  go_enter Tryd.func26, Tryd.ntmps26
  go_wp2_with fail
  refine ((HN.out _).1).mono ?_; rintro e W1 ⟨rfl, hb1⟩
  have H1 : Hid (Box W1 w.heap.size (cl4 ⟨x0, y0, x1, y1⟩) ∧ Below w.heap.size w W1) := ⟨HX.out.1.call hb1, HX.out.2.trans (hb1.mono HX.out.2.size)⟩
  clear hb1 HX g0
  have g1 := H1.out.1.cell 1 rfl
  cases d0 with
  | false =>
    go_wp2_with fail
    go_ret
    exact ⟨ret_b HE.out.symm, H1.out.2⟩
  | true =>
    go_wp2_with fail
    refine ((HN.out _).2.1).mono ?_; rintro e W2 ⟨rfl, hb2⟩
    have H2 : Hid (Box W2 w.heap.size (cl4 ⟨x0, y0, x1, y1⟩) ∧ Below w.heap.size w W2) := ⟨H1.out.1.call hb2, H1.out.2.trans (hb2.mono H1.out.2.size)⟩
    clear hb2 H1 g1
    have g2 := H2.out.1.cell 2 rfl
    cases d1 with
    | false =>
      go_wp2_with fail
      go_ret
      exact ⟨ret_b HE.out.symm, H2.out.2⟩
    | true =>
      go_wp2_with fail
      refine ((HN.out _).2.2.1).mono ?_; rintro e W3 ⟨rfl, hb3⟩
      have H3 : Hid (Box W3 w.heap.size (cl4 ⟨x0, y0, x1, y1⟩) ∧ Below w.heap.size w W3) := ⟨H2.out.1.call hb3, H2.out.2.trans (hb3.mono H2.out.2.size)⟩
      clear hb3 H2 g2
      have g3 := H3.out.1.cell 3 rfl
      cases d2 with
      | false =>
        go_wp2_with fail
        go_ret
        exact ⟨ret_b HE.out.symm, H3.out.2⟩
      | true =>
        go_wp2_with fail
        refine ((HN.out _).2.2.2).mono ?_; rintro e W4 ⟨rfl, hb4⟩
        have H4 : Hid (Box W4 w.heap.size (cl4 ⟨x0, y0, x1, y1⟩) ∧ Below w.heap.size w W4) := ⟨H3.out.1.call hb4, H3.out.2.trans (hb4.mono H3.out.2.size)⟩
        clear hb4 H3 g3
        go_wp2_with fail
        go_ret
        exact ⟨ret_b HE.out.symm, H4.out.2⟩
def pxRP (p : Px) : Bool := pxR p.r p.g p.b p.a
def picB (c : Ct) : Bool := !(decide (c.w < 1) || (decide (c.h < 1) || (decide (4096 < c.w) || (decide (4096 < c.h) || (decide (65536 < c.w * c.h) || ((c.pix.length : Int) != c.w * c.h || (decide (c.turn < 0) || (decide (3 < c.turn) || (!ncB c.box.x0 || !ncB c.box.y0)))))))))
def contB (c : Ct) : Bool := if c.kind = 1 then rcNB c.box && pxRP c.px else if c.kind = 2 then picB c && c.pix.all pxRP else c.kind == 0
theorem ctOk_of {c : Ct} (hp : c.px.Ok) (h : contB c = true) : CtOk c := by
  unfold contB at h
  refine ⟨?_, hp, fun e => ?_, fun e => ?_⟩
  · split at h
    · rename_i e; exact .inr (.inl e)
    · split at h
      · rename_i e; exact .inr (.inr e)
      · exact .inl (eq_of_beq h)
  · rw [if_pos e, Bool.and_eq_true] at h
    exact (rcNB_iff _).1 h.1
  · rw [if_neg (by omega), if_pos e, Bool.and_eq_true] at h
    have h1 := h.1
    unfold picB at h1
    simp only [Bool.not_eq_true', Bool.or_eq_false_iff, decide_eq_false_iff_not, Bool.not_eq_false', ncB_iff, bne_eq_false_iff_eq] at h1
    obtain ⟨a, b, c', d, e', f, g, i, j, k⟩ := h1
    exact ⟨⟨by omega, by omega⟩, ⟨by omega, by omega⟩, f, by omega, ⟨by omega, by omega⟩, j, k⟩
theorem pix_at {F : Nat → Prop} {w : World} {v : Value} {xs : List Px} (h : SlOf RPx 4 F w v xs) {i : Nat} (hi : i < xs.length) : ∃ b o c p, v = .slice (some ⟨b, o, none⟩) xs.length c ∧ F b ∧ xs.length ≤ c ∧ c ≤ maxLen ∧ xs[i]? = some p ∧ p.Ok ∧
    w.cell? ⟨b, o + i * 4, none⟩ = some (.int .u8 p.r) ∧ w.cell? ⟨b, o + i * 4 + 1, none⟩ = some (.int .u8 p.g) ∧ w.cell? ⟨b, o + i * 4 + 2, none⟩ = some (.int .u8 p.b) ∧ w.cell? ⟨b, o + i * 4 + 3, none⟩ = some (.int .u8 p.a) := by
  obtain ⟨a, cap, rfl, h1, h2, h3⟩ := h
  rcases h3 with h3 | ⟨b, o, rfl, hF, h3⟩
  · subst h3; simp at hi
  · obtain ⟨cs, hl, hc, rfl, hok⟩ := h3 i xs[i] (List.getElem?_eq_getElem hi)
    have k0 := hc 0 _ rfl
    have k1 := hc 1 _ rfl
    have k2 := hc 2 _ rfl
    have k3 := hc 3 _ rfl
    exact ⟨b, o, cap, xs[i], rfl, hF, h1, h2, List.getElem?_eq_getElem hi, hok, by simpa using k0, k1, k2, k3⟩
theorem mul_bd {a b m : Int} (ha : 1 ≤ a ∧ a ≤ m) (hb : 1 ≤ b ∧ b ≤ m) : 1 ≤ a * b ∧ a * b ≤ m * m := by
  refine ⟨?_, Int.mul_le_mul ha.2 hb.2 (by omega) (by omega)⟩
  have := Int.mul_le_mul (a := 1) (b := 1) (c := a) (d := b) ha.1 hb.1 (by omega) (by omega)
  omega
set_option maxRecDepth 8000 in
set_option maxHeartbeats 12800000 in
theorem content23_c (B : Nat) (c : Ct) (v : Value) (w : World) (hp : c.px.Ok) (hv : SlOf RPx 4 (· < B) w v c.pix) (hB : B ≤ w.heap.size) : Calls Tryd.prog 12 #[ctv c v] w (PPost w (.bool (contB c))) := by
  have HV0 := hv
  obtain ⟨va, vn, vm, hvf⟩ := sl_form hv
  subst hvf
  have hvn : vn = c.pix.length ∧ vn ≤ vm ∧ vm ≤ maxLen := by
    obtain ⟨a, cc, h1, h2, h3, _⟩ := hv
    simp only [Value.slice.injEq] at h1
    obtain ⟨_, h4, h5⟩ := h1
    subst h5
    exact ⟨h4, by omega, h3⟩
  obtain ⟨R, hR⟩ : ∃ R, R = contB c := ⟨_, rfl⟩
  have HR : Hid (R = contB c) := Lib.hid hR
  rw [← hR]
  obtain ⟨kind, ⟨x0, y0, x1, y1⟩, ⟨p0, p1, p2, p3⟩, cw, ch, turn, pix⟩ := c
  have HV : Hid (∀ W, Below w.heap.size w W → SlOf RPx 4 (· < B) W (.slice va vn vm) pix) := fun W hb => HV0.same RPx.ok (Same.of_below hb fun b (hbl : b < B) => Nat.lt_of_lt_of_le hbl hB)
  have HP : Hid (vn = pix.length) := hvn.1
  obtain ⟨hvq, hvm, hvmx⟩ := hvn
  clear hvq
  unfold maxLen at hvmx
  have HW : Hid (Bag w (w.alloc (.cells #[.int .i64 kind, .int .i64 x0, .int .i64 y0, .int .i64 x1, .int .i64 y1, .int .u8 p0, .int .u8 p1, .int .u8 p2, .int .u8 p3, .int .i64 cw, .int .i64 ch, .int .i64 turn, .slice va vn vm] 30)) [(w.heap.size, [.int .i64 kind, .int .i64 x0, .int .i64 y0, .int .i64 x1, .int .i64 y1, .int .u8 p0, .int .u8 p1, .int .u8 p2, .int .u8 p3, .int .i64 cw, .int .i64 ch, .int .i64 turn, .slice va vn vm])]) := bag1 w [.int .i64 kind, .int .i64 x0, .int .i64 y0, .int .i64 x1, .int .i64 y1, .int .u8 p0, .int .u8 p1, .int .u8 p2, .int .u8 p3, .int .i64 cw, .int .i64 ch, .int .i64 turn, .slice va vn vm] _
  clear hp HV0 hv hR hB
  by_cases hk1 : kind = 1
  · subst hk1
    obtain ⟨d1, hd1⟩ : ∃ d, d = rcNB ⟨x0, y0, x1, y1⟩ := ⟨_, rfl⟩
    obtain ⟨d2, hd2⟩ : ∃ d, d = pxRP ⟨p0, p1, p2, p3⟩ := ⟨_, rfl⟩
    have HE : Hid (R = (d1 && d2)) := by
      have : R = (d1 && d2) := by rw [HR.out, hd1, hd2]; rfl
      exact this
    have HC : Hid (∀ W, Calls Tryd.prog 26 #[.agg #[.int .i64 x0, .int .i64 y0, .int .i64 x1, .int .i64 y1]] W (PPost W (.bool d1))) := fun W => by rw [hd1]; exact rect23_c ⟨x0, y0, x1, y1⟩ W
    have HD : Hid (∀ W, Calls Tryd.prog 27 #[.agg #[.int .u8 p0, .int .u8 p1, .int .u8 p2, .int .u8 p3]] W (PPost W (.bool d2))) := fun W => by rw [hd2]; exact right01_c p0 p1 p2 p3 W
    clear hd1 hd2 HR
    go_enter Tryd.func12, Tryd.ntmps12
    go_wp2_with fail
    generalize (w.alloc (.cells #[.int .i64 1, .int .i64 x0, .int .i64 y0, .int .i64 x1, .int .i64 y1, .int .u8 p0, .int .u8 p1, .int .u8 p2, .int .u8 p3, .int .i64 cw, .int .i64 ch, .int .i64 turn, .slice va vn vm] 30)) = W1 at *
    refine (HC.out _).mono ?_; rintro e W2 ⟨rfl, hb2⟩
    have H2 := Lib.hid (HW.out.call hb2)
    have e5 := H2.out.cell 0 rfl 5 rfl
    have e6 := H2.out.cell 0 rfl 6 rfl
    have e7 := H2.out.cell 0 rfl 7 rfl
    have e8 := H2.out.cell 0 rfl 8 rfl
    clear hb2 HW HC
    cases d1 with
    | false =>
      go_wp2_with fail
      go_ret
      exact ⟨ret_b HE.out.symm, H2.out.below⟩
    | true =>
      go_wp2_with fail
      refine (HD.out _).mono ?_; rintro e W3 ⟨rfl, hb3⟩
      have H3 := Lib.hid (H2.out.call hb3)
      clear e5 e6 e7 e8 hb3 H2
      go_wp2_with fail
      go_ret
      exact ⟨ret_b HE.out.symm, H3.out.below⟩
  · by_cases hk2 : kind = 2
    · subst hk2
      have HE0 : Hid (R = (picB ⟨2, ⟨x0, y0, x1, y1⟩, ⟨p0, p1, p2, p3⟩, cw, ch, turn, pix⟩ && pix.all pxRP)) := by
        have : R = (picB ⟨2, ⟨x0, y0, x1, y1⟩, ⟨p0, p1, p2, p3⟩, cw, ch, turn, pix⟩ && pix.all pxRP) := HR.out
        exact this
      clear HR hk1
      by_cases t0 : cw < 1
      · have d0 : decide (cw < 1) = true := decide_eq_true t0
        have HF : Hid (R = false) := by
          have : R = false := by rw [HE0.out]; unfold picB; simp [t0]
          exact this
        clear HE0
        clear t0
        go_enter Tryd.func12, Tryd.ntmps12
        go_wp2_with fail
        go_ret
        exact ⟨ret_b HF.out.symm, HW.out.below⟩
      have d0 : decide (cw < 1) = false := decide_eq_false t0
      by_cases t1 : ch < 1
      · have d1 : decide (ch < 1) = true := decide_eq_true t1
        have HF : Hid (R = false) := by
          have : R = false := by rw [HE0.out]; unfold picB; simp [t1]
          exact this
        clear HE0
        clear t1
        go_enter Tryd.func12, Tryd.ntmps12
        go_wp2_with fail
        go_ret
        exact ⟨ret_b HF.out.symm, HW.out.below⟩
      have d1 : decide (ch < 1) = false := decide_eq_false t1
      by_cases t2 : 4096 < cw
      · have d2 : decide (4096 < cw) = true := decide_eq_true t2
        have HF : Hid (R = false) := by
          have : R = false := by rw [HE0.out]; unfold picB; simp [t2]
          exact this
        clear HE0
        clear t2
        go_enter Tryd.func12, Tryd.ntmps12
        go_wp2_with fail
        go_ret
        exact ⟨ret_b HF.out.symm, HW.out.below⟩
      have d2 : decide (4096 < cw) = false := decide_eq_false t2
      by_cases t3 : 4096 < ch
      · have d3 : decide (4096 < ch) = true := decide_eq_true t3
        have HF : Hid (R = false) := by
          have : R = false := by rw [HE0.out]; unfold picB; simp [t3]
          exact this
        clear HE0
        clear t3
        go_enter Tryd.func12, Tryd.ntmps12
        go_wp2_with fail
        go_ret
        exact ⟨ret_b HF.out.symm, HW.out.below⟩
      have d3 : decide (4096 < ch) = false := decide_eq_false t3
      have hmul := mul_bd (a := cw) (b := ch) (m := 4096) ⟨by omega, by omega⟩ ⟨by omega, by omega⟩
      obtain ⟨hm1, hm2⟩ := hmul
      obtain ⟨ar, har⟩ : ∃ a, a = cw * ch := ⟨_, rfl⟩
      have hwm : IntKind.i64.wrap (cw * ch) = cw * ch := wrap_in (by omega) (by omega)
      clear t0 t1 t2 t3
      by_cases t4 : 65536 < cw * ch
      · have d4 : decide (65536 < cw * ch) = true := decide_eq_true t4
        have HF : Hid (R = false) := by
          have : R = false := by rw [HE0.out]; unfold picB; simp [t4]
          exact this
        clear HE0 t4 har hm1 hm2
        go_enter Tryd.func12, Tryd.ntmps12
        go_wp2_with fail
        go_ret
        exact ⟨ret_b HF.out.symm, HW.out.below⟩
      have d4 : decide (65536 < cw * ch) = false := decide_eq_false t4
      by_cases t5 : (vn : Int) = cw * ch
      rotate_left
      · have d5 : ((vn : Int) == cw * ch) = false := beq_eq_false_iff_ne.2 t5
        have d5' : ((vn : Int) != cw * ch) = true := by rw [bne, d5]; rfl
        have t5' : ¬ (pix.length : Int) = cw * ch := by rw [← HP.out]; exact t5
        have HF : Hid (R = false) := by
          have : R = false := by rw [HE0.out]; unfold picB; simp [t5']
          exact this
        clear HE0 t5 t5' har hm1 hm2 t4
        go_enter Tryd.func12, Tryd.ntmps12
        go_wp2_with fail
        go_ret
        exact ⟨ret_b HF.out.symm, HW.out.below⟩
      have d5 : ((vn : Int) == cw * ch) = true := by rw [t5]; simp
      have d5' : ((vn : Int) != cw * ch) = false := by rw [bne, d5]; rfl
      have HT5 : Hid ((pix.length : Int) = cw * ch) := by
        have : (pix.length : Int) = cw * ch := by rw [← HP.out]; exact t5
        exact this
      clear t5 har hm1 hm2
      have HT4 : Hid (¬ 65536 < cw * ch) := t4
      clear t4
      by_cases t6 : turn < 0
      · have d6 : decide (turn < 0) = true := decide_eq_true t6
        have HF : Hid (R = false) := by
          have : R = false := by rw [HE0.out]; unfold picB; simp [t6]
          exact this
        clear HE0 t6
        go_enter Tryd.func12, Tryd.ntmps12
        go_wp2_with fail
        go_ret
        exact ⟨ret_b HF.out.symm, HW.out.below⟩
      have d6 : decide (turn < 0) = false := decide_eq_false t6
      by_cases t7 : 3 < turn
      · have d7 : decide (3 < turn) = true := decide_eq_true t7
        have HF : Hid (R = false) := by
          have : R = false := by rw [HE0.out]; unfold picB; simp [t7]
          exact this
        clear HE0 t7 t6
        go_enter Tryd.func12, Tryd.ntmps12
        go_wp2_with fail
        go_ret
        exact ⟨ret_b HF.out.symm, HW.out.below⟩
      have d7 : decide (3 < turn) = false := decide_eq_false t7
      have HPI : Hid (picB ⟨2, ⟨x0, y0, x1, y1⟩, ⟨p0, p1, p2, p3⟩, cw, ch, turn, pix⟩ = !(!ncB x0 || !ncB y0)) := by
        have : picB ⟨2, ⟨x0, y0, x1, y1⟩, ⟨p0, p1, p2, p3⟩, cw, ch, turn, pix⟩ = !(!ncB x0 || !ncB y0) := by
          unfold picB
          have h4 := HT4.out
          have h5 := HT5.out
          dsimp only
          rw [d0, d1, d2, d3, d4, d6, d7, bne, beq_iff_eq.2 h5]
          rfl
        exact this
      clear t6 t7 HT4 HT5
      obtain ⟨n0, hn0⟩ : ∃ d, d = ncB x0 := ⟨_, rfl⟩
      obtain ⟨n1, hn1⟩ : ∃ d, d = ncB y0 := ⟨_, rfl⟩
      have HN0 : Hid (∀ W, Calls Tryd.prog 28 #[.int .i64 x0] W (PPost W (.bool n0))) := fun W => by rw [hn0]; exact near23_c x0 W
      have HN1 : Hid (∀ W, Calls Tryd.prog 28 #[.int .i64 y0] W (PPost W (.bool n1))) := fun W => by rw [hn1]; exact near23_c y0 W
      have HE1 : Hid (R = ((n0 && n1) && pix.all pxRP)) := by
        have : R = ((n0 && n1) && pix.all pxRP) := by rw [HE0.out, HPI.out, hn0, hn1]; cases ncB x0 <;> cases ncB y0 <;> rfl
        exact this
      clear hn0 hn1 HE0 HPI
      go_enter Tryd.func12, Tryd.ntmps12
      go_wp2_with fail
      generalize (w.alloc (.cells #[.int .i64 2, .int .i64 x0, .int .i64 y0, .int .i64 x1, .int .i64 y1, .int .u8 p0, .int .u8 p1, .int .u8 p2, .int .u8 p3, .int .i64 cw, .int .i64 ch, .int .i64 turn, .slice va vn vm] 30)) = W1 at *
      refine (HN0.out _).mono ?_; rintro e W2 ⟨rfl, hb2⟩
      have H2 := Lib.hid (HW.out.call hb2)
      have e2 := H2.out.cell 0 rfl 2 rfl
      clear hb2 HW hwm d0 d1 d2 d3 d4 d5 d5' d6 d7
      cases n0 with
      | false =>
        go_wp2_with fail
        go_ret
        exact ⟨ret_b HE1.out.symm, H2.out.below⟩
      | true =>
      go_wp2_with fail
      refine (HN1.out _).mono ?_; rintro e W3 ⟨rfl, hb3⟩
      have H3 := Lib.hid (H2.out.call hb3)
      clear hb3 H2 e2
      cases n1 with
      | false =>
        go_wp2_with fail
        go_ret
        exact ⟨ret_b HE1.out.symm, H3.out.below⟩
      | true =>
      have HE2 : Hid (R = pix.all pxRP) := HE1.out
      clear HE1
      go_wp2_with fail
      go_loopw [3] (fun jv wr => ∃ j : Nat, j ≤ vn ∧ jv = .int .i64 j ∧ Bag w wr [(w.heap.size, [.int .i64 2, .int .i64 x0, .int .i64 y0, .int .i64 x1, .int .i64 y1, .int .u8 p0, .int .u8 p1, .int .u8 p2, .int .u8 p3, .int .i64 cw, .int .i64 ch, .int .i64 turn, .slice va vn vm])] ∧ Hid (∀ q, q < j → ∀ p, pix[q]? = some p → pxRP p = true)) (fun jv _ => vn - (intOf jv).toNat)
      case atStart => exact ⟨0, by omega, rfl, H3.out, fun q hq => by omega⟩
      case round =>
        obtain ⟨j, hj, rfl, hr, hall⟩ := hrel
        have H4 : Hid (Bag w wr [(w.heap.size, [.int .i64 2, .int .i64 x0, .int .i64 y0, .int .i64 x1, .int .i64 y1, .int .u8 p0, .int .u8 p1, .int .u8 p2, .int .u8 p3, .int .i64 cw, .int .i64 ch, .int .i64 turn, .slice va vn vm])]) := Lib.hid hr
        have e12 := H4.out.cell 0 rfl 12 rfl
        clear hr H3
        by_cases hjl : j < vn
        · obtain ⟨b, of, cc, p, hsv, _, _, _, hpj, _, m0, m1, m2, m3⟩ := pix_at (HV.out wr H4.out.below) (i := j) (by rw [← HP.out]; exact hjl)
          simp only [Value.slice.injEq] at hsv
          obtain ⟨rfl, hnn, rfl⟩ := hsv
          clear hnn
          obtain ⟨z0, z1, z2, z3⟩ := p
          dsimp only at m0 m1 m2 m3
          obtain ⟨d, hd⟩ : ∃ d, d = pxRP ⟨z0, z1, z2, z3⟩ := ⟨_, rfl⟩
          have HC : Hid (∀ W, Calls Tryd.prog 27 #[.agg #[.int .u8 z0, .int .u8 z1, .int .u8 z2, .int .u8 z3]] W (PPost W (.bool d))) := fun W => by rw [hd]; exact right01_c z0 z1 z2 z3 W
          have HD : Hid (d = pxRP ⟨z0, z1, z2, z3⟩ ∧ pix[j]? = some ⟨z0, z1, z2, z3⟩) := ⟨hd, hpj⟩
          have hj0 : (0 : Int) ≤ (j : Int) := by omega
          have hj1 : (j : Int) < (vn : Int) := by omega
          clear hd hpj
          go_wp2_with fail
          refine (HC.out _).mono ?_; rintro e W5 ⟨rfl, hb5⟩
          have H5 : Hid (Bag w W5 [(w.heap.size, [.int .i64 2, .int .i64 x0, .int .i64 y0, .int .i64 x1, .int .i64 y1, .int .u8 p0, .int .u8 p1, .int .u8 p2, .int .u8 p3, .int .i64 cw, .int .i64 ch, .int .i64 turn, .slice (some ⟨b, of, none⟩) vn vm])]) := H4.out.call hb5
          clear hb5 H4 m0 m1 m2 m3 e12 HC
          cases d with
          | false =>
            have HF : Hid (R = false) := by
              have : R = false := by
                rw [HE2.out, List.all_eq_false]
                exact ⟨_, List.mem_of_getElem? HD.out.2, by rw [← HD.out.1]; simp⟩
              exact this
            go_wp2_with fail
            go_ret
            exact ⟨ret_b HF.out.symm, H5.out.below⟩
          | true =>
            have HA : Hid (∀ q, q < j + 1 → ∀ p, pix[q]? = some p → pxRP p = true) := fun q hq p hp => by
              by_cases e : q = j
              · subst e
                rw [HD.out.2] at hp
                cases hp
                exact HD.out.1.symm
              · exact hall.out q (by omega) p hp
            go_wp2_with fail
            go_roundw
            case rel => exact ⟨j + 1, by omega, by go_num, H5.out, HA⟩
            case measure => simp [intOf]; omega
        · have ej : j = vn := by omega
          subst ej
          have HT : Hid (R = true) := by
            have : R = true := by
              rw [HE2.out, List.all_eq_true]
              intro p hp
              obtain ⟨q, hq⟩ := List.getElem?_of_mem hp
              exact hall.out q (by rw [HP.out]; exact (List.getElem?_eq_some_iff.1 hq).1) p hq
            exact this
          go_wp2_with fail
          go_ret
          exact ⟨ret_b HT.out.symm, H4.out.below⟩
    · have e1 : (kind == 1) = false := beq_eq_false_iff_ne.2 hk1
      have e2 : (kind == 2) = false := beq_eq_false_iff_ne.2 hk2
      have HE : Hid (R = (kind == 0)) := by
        have : R = (kind == 0) := by
          rw [HR.out]
          unfold contB
          dsimp only
          rw [if_neg hk1, if_neg hk2]
        exact this
      clear HR hk1 hk2
      go_enter Tryd.func12, Tryd.ntmps12
      go_wp2_with fail
      go_ret
      exact ⟨ret_b HE.out.symm, HW.out.below⟩
end Go.Proofs.YtgodhpampaleeaaDoor
