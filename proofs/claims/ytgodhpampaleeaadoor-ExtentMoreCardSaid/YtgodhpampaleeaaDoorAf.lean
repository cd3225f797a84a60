/- Texts joined: XNu XNv. -/
import Derived.Test.YtgodhpampaleeaaDoorAe
import Derived.Test.YtgodhpampaleeaaDoorAa
import Derived.Test.YtgodhpampaleeaaDoorAc
import Derived.Laws.StructEq
set_option maxRecDepth 4000
/- Layer 3, the document's answer: rectangles. -/
namespace Go.Proofs.YtgodhpampaleeaaDoor
open Go.RowKit Go.Bx Go.Od Go.Hp
attribute [local go_sem ↓] Go.wp_at_zero Go.wp_at_succ
set_option linter.unusedVariables false

def plB (x : Int) : Bool := decide (-4398046511104 ≤ x) && decide (x ≤ 4398046511104)
theorem plB_iff (x : Int) : plB x = true ↔ Pl x := by simp [plB, Pl]
theorem rempty_c (r : Rc) (w : World) : Calls Tryd.prog 20 #[rv r] w (PPost w (.bool r.emp)) := by
  obtain ⟨x0, y0, x1, y1⟩ := r
  have HX : Hid (Box (w.alloc (.cells (cs4 x0 y0 x1 y1) 25)) w.heap.size (cl4 ⟨x0, y0, x1, y1⟩) ∧ Below w.heap.size w (w.alloc (.cells (cs4 x0 y0 x1 y1) 25))) := ⟨Box.new w _ _, below_new _ _⟩
  obtain ⟨d0, h0⟩ : ∃ d, decide (x0 < x1) = d := ⟨_, rfl⟩
  obtain ⟨d1, h1⟩ : ∃ d, decide (y0 < y1) = d := ⟨_, rfl⟩
  have HE : Hid (Rc.emp ⟨x0, y0, x1, y1⟩ = !(d0 && d1)) := by
    have : Rc.emp ⟨x0, y0, x1, y1⟩ = !(d0 && d1) := by
      rw [← h0, ← h1]
      unfold Rc.emp
      dsimp only
      by_cases e0 : x0 < x1 <;> by_cases e1 : y0 < y1 <;> simp [e0, e1] <;> omega
    exact this
  cases d0 with
  | false =>
    go_enter Tryd.func20, Tryd.ntmps20
    go_wp2_with fail
    go_ret
    exact ⟨ret_b HE.out.symm, HX.out.2⟩
  | true =>
    cases d1 with
    | false =>
      go_enter Tryd.func20, Tryd.ntmps20
      go_wp2_with fail
      go_ret
      exact ⟨ret_b HE.out.symm, HX.out.2⟩
    | true =>
      go_enter Tryd.func20, Tryd.ntmps20
      go_wp2_with fail
      go_ret
      exact ⟨ret_b HE.out.symm, HX.out.2⟩
def hasR (r : Rc) (x y : Int) : Bool := decide (r.x0 ≤ x) && (decide (x < r.x1) && (decide (r.y0 ≤ y) && decide (y < r.y1)))
theorem has03_c (r : Rc) (x y : Int) (w : World) : Calls Tryd.prog 18 #[rv r, .int .i64 x, .int .i64 y] w (PPost w (.bool (hasR r x y))) := by
  obtain ⟨x0, y0, x1, y1⟩ := r
  have HX : Hid (Box (w.alloc (.cells (cs4 x0 y0 x1 y1) 25)) w.heap.size (cl4 ⟨x0, y0, x1, y1⟩) ∧ Below w.heap.size w (w.alloc (.cells (cs4 x0 y0 x1 y1) 25))) := ⟨Box.new w _ _, below_new _ _⟩
  obtain ⟨d0, h0⟩ : ∃ d, decide (x0 ≤ x) = d := ⟨_, rfl⟩
  obtain ⟨d1, h1⟩ : ∃ d, decide (x < x1) = d := ⟨_, rfl⟩
  obtain ⟨d2, h2⟩ : ∃ d, decide (y0 ≤ y) = d := ⟨_, rfl⟩
  obtain ⟨d3, h3⟩ : ∃ d, decide (y < y1) = d := ⟨_, rfl⟩
  have HE : Hid (hasR ⟨x0, y0, x1, y1⟩ x y = (d0 && (d1 && (d2 && d3)))) := by
    have : hasR ⟨x0, y0, x1, y1⟩ x y = (d0 && (d1 && (d2 && d3))) := by unfold hasR; rw [h0, h1, h2, h3]
    exact this
  cases d0 with
  | false =>
    go_enter Tryd.func18, Tryd.ntmps18
    go_wp2_with fail
    go_ret
    exact ⟨ret_b HE.out.symm, HX.out.2⟩
  | true =>
    cases d1 with
    | false =>
      go_enter Tryd.func18, Tryd.ntmps18
      go_wp2_with fail
      go_ret
      exact ⟨ret_b HE.out.symm, HX.out.2⟩
    | true =>
      cases d2 with
      | false =>
        go_enter Tryd.func18, Tryd.ntmps18
        go_wp2_with fail
        go_ret
        exact ⟨ret_b HE.out.symm, HX.out.2⟩
      | true =>
        cases d3 with
        | false =>
          go_enter Tryd.func18, Tryd.ntmps18
          go_wp2_with fail
          go_ret
          exact ⟨ret_b HE.out.symm, HX.out.2⟩
        | true =>
          go_enter Tryd.func18, Tryd.ntmps18
          go_wp2_with fail
          go_ret
          exact ⟨ret_b HE.out.symm, HX.out.2⟩
def rightR (r : Rc) : Bool := plB r.x0 && (plB r.y0 && (plB r.x1 && plB r.y1))
theorem rightR_iff (r : Rc) : rightR r = true ↔ RcP r := by
  unfold rightR RcP
  simp only [Bool.and_eq_true, plB_iff]
def refWi (a b : Rc) : Bool := a.emp || (hasR b a.x0 a.y0 && hasR b (a.x1 - 1) (a.y1 - 1))
theorem refWi_of {a b : Rc} (h : WiS a b) : refWi a b = true := by
  unfold refWi
  cases ea : a.emp with
  | true => rfl
  | false =>
    rw [nemp_iff] at ea
    have h : b.x0 ≤ a.x0 ∧ b.y0 ≤ a.y0 ∧ a.x1 ≤ b.x1 ∧ a.y1 ≤ b.y1 := by
      rcases h with h | h
      · rw [emp_iff] at h; omega
      · exact h
    unfold hasR
    simp only [Bool.false_or, Bool.and_eq_true, decide_eq_true_eq]
    omega
set_option maxHeartbeats 1600000 in
theorem rwithin_c (a b : Rc) (w : World) (ha : RcP a) : Calls Tryd.prog 9 #[rv a, rv b] w (PPost w (.bool (refWi a b))) := by
  obtain ⟨x0, y0, x1, y1⟩ := a
  obtain ⟨x2, y2, x3, y3⟩ := b
  obtain ⟨p0, p1, p2, p3⟩ := ha
  unfold Pl at p0 p1 p2 p3
  dsimp only at p0 p1 p2 p3
  have J0 : Hid (Box ((w.alloc (.cells (cs4 x0 y0 x1 y1) 25)).alloc (.cells (cs4 x2 y2 x3 y3) 25)) w.heap.size (cl4 ⟨x0, y0, x1, y1⟩) ∧ Box ((w.alloc (.cells (cs4 x0 y0 x1 y1) 25)).alloc (.cells (cs4 x2 y2 x3 y3) 25)) (w.heap.size + 1) (cl4 ⟨x2, y2, x3, y3⟩) ∧ Below w.heap.size w ((w.alloc (.cells (cs4 x0 y0 x1 y1) 25)).alloc (.cells (cs4 x2 y2 x3 y3) 25))) := J2new w ⟨x0, y0, x1, y1⟩ ⟨x2, y2, x3, y3⟩ 25
  obtain ⟨d0, h0⟩ : ∃ d, Rc.emp ⟨x0, y0, x1, y1⟩ = d := ⟨_, rfl⟩
  obtain ⟨d1, h1⟩ : ∃ d, hasR ⟨x2, y2, x3, y3⟩ x0 y0 = d := ⟨_, rfl⟩
  obtain ⟨d2, h2⟩ : ∃ d, hasR ⟨x2, y2, x3, y3⟩ (x1 - 1) (y1 - 1) = d := ⟨_, rfl⟩
  have HE : Hid (refWi ⟨x0, y0, x1, y1⟩ ⟨x2, y2, x3, y3⟩ = (d0 || (d1 && d2))) := by
    have : refWi ⟨x0, y0, x1, y1⟩ ⟨x2, y2, x3, y3⟩ = (d0 || (d1 && d2)) := by unfold refWi; rw [h0, h1, h2]
    exact this
  have HN : Hid (∀ (W : World), Calls Tryd.prog 20 #[rv ⟨x0, y0, x1, y1⟩] W (PPost W (.bool d0)) ∧ Calls Tryd.prog 18 #[rv ⟨x2, y2, x3, y3⟩, .int .i64 x0, .int .i64 y0] W (PPost W (.bool d1)) ∧ Calls Tryd.prog 18 #[rv ⟨x2, y2, x3, y3⟩, .int .i64 (x1 - 1), .int .i64 (y1 - 1)] W (PPost W (.bool d2))) := fun W => by
    rw [← h0, ← h1, ← h2]
    exact ⟨rempty_c _ W, has03_c _ _ _ W, has03_c _ _ _ W⟩
  clear h0 h1 h2
  go_enter Tryd.func9, Tryd.ntmps9
  go_wp2_with fail
  generalize ((w.alloc (.cells (cs4 x0 y0 x1 y1) 25)).alloc (.cells (cs4 x2 y2 x3 y3) 25)) = W0 at *
  refine ((HN.out _).1).mono ?_; rintro e W1 ⟨rfl, hb1⟩
  have J1 : Hid (Box W1 w.heap.size (cl4 ⟨x0, y0, x1, y1⟩) ∧ Box W1 (w.heap.size + 1) (cl4 ⟨x2, y2, x3, y3⟩) ∧ Below w.heap.size w W1) := ⟨J0.out.1.call hb1, J0.out.2.1.call hb1, J0.out.2.2.trans (hb1.mono J0.out.2.2.size)⟩
  clear hb1 J0
  cases d0 with
  | true =>
    go_wp2_with fail
    go_ret
    exact ⟨ret_b HE.out.symm, J1.out.2.2⟩
  | false =>
    obtain ⟨a0, a1, a2, a3⟩ := box4 J1.out.1
    obtain ⟨b0, b1, b2, b3⟩ := box4 J1.out.2.1
    go_wp2_with fail
    refine ((HN.out _).2.1).mono ?_; rintro e W2 ⟨rfl, hb2⟩
    have J2 : Hid (Box W2 w.heap.size (cl4 ⟨x0, y0, x1, y1⟩) ∧ Box W2 (w.heap.size + 1) (cl4 ⟨x2, y2, x3, y3⟩) ∧ Below w.heap.size w W2) := ⟨J1.out.1.call hb2, J1.out.2.1.call hb2, J1.out.2.2.trans (hb2.mono J1.out.2.2.size)⟩
    clear hb2 J1 a0 a1 a2 a3 b0 b1 b2 b3
    cases d1 with
    | false =>
      go_wp2_with fail
      go_ret
      exact ⟨ret_b HE.out.symm, J2.out.2.2⟩
    | true =>
      obtain ⟨a0, a1, a2, a3⟩ := box4 J2.out.1
      obtain ⟨b0, b1, b2, b3⟩ := box4 J2.out.2.1
      go_wp2_with fail
      refine ((HN.out _).2.2).mono ?_; rintro e W3 ⟨rfl, hb3⟩
      have HB : Hid (Below w.heap.size w W3) := J2.out.2.2.trans (hb3.mono J2.out.2.2.size)
      clear hb3 J2 a0 a1 a2 a3 b0 b1 b2 b3
      go_wp2_with fail
      go_ret
      exact ⟨ret_b HE.out.symm, HB.out⟩
end Go.Proofs.YtgodhpampaleeaaDoor
/- Layer 14: comparing rectangles; the program's answer for a right filter; 'awake'. -/
namespace Go.Proofs.YtgodhpampaleeaaDoor
open Go.RowKit Go.Bx Go.Od Go.Hp
attribute [local go_sem ↓] Go.wp_at_zero Go.wp_at_succ
set_option linter.unusedVariables false

theorem struct_Rect : Tryd.prog.underlying 25 = some (.struct (Tryd.prog.fieldsOf 25)) := by kernel_rfl
theorem stood_Rect : Tryd.prog.stoodInHeld 25 = false := by kernel_rfl
theorem fields_Rect : (Tryd.prog.fieldsOf 25).toList.map (fun f => (decide (f.name = "_"), f.type, f.offset)) = [(false, 3, 0), (false, 3, 1), (false, 3, 2), (false, 3, 3)] := by kernel_rfl
set_option maxHeartbeats 400000 in
theorem eqRect (a b c d : Int) (w : World) : (Op.equalIn 10000 25 (.agg #[.int .i64 a, .int .i64 b, .int .i64 c, .int .i64 d]) (.agg #[.int .i64 a, .int .i64 b, .int .i64 c, .int .i64 d])).run Tryd.prog w = .ok true w := by
  rw [run_equalIn_struct w 9999 25 _ _ struct_Rect stood_Rect]
  have hf := fields_Rect
  generalize (Tryd.prog.fieldsOf 25).toList = l at hf ⊢
  rcases l with _ | ⟨f, _ | ⟨g, _ | ⟨h, _ | ⟨k, _ | ⟨e, l⟩⟩⟩⟩⟩
  · simp at hf
  · simp at hf
  · simp at hf
  · simp at hf
  rotate_left
  · simp at hf
  · simp only [List.map_cons, List.map_nil, List.cons.injEq, Prod.mk.injEq, and_true, decide_eq_false_iff_not] at hf
    obtain ⟨⟨a1, a2, a3⟩, ⟨b1, b2, b3⟩, ⟨c1, c2, c3⟩, d1, d2, d3⟩ := hf
    unfold Op.eqFields
    rw [a2, a3, if_pos a1]
    unfold Op.eqFields
    rw [b2, b3, if_pos b1]
    unfold Op.eqFields
    rw [c2, c3, if_pos c1]
    unfold Op.eqFields
    rw [d2, d3, if_pos d1]
    unfold Op.eqFields
    go_simp
theorem neqR (a b c d : Int) (w : World) : (binOp .neq 25 (.agg #[.int .i64 a, .int .i64 b, .int .i64 c, .int .i64 d]) (.agg #[.int .i64 a, .int .i64 b, .int .i64 c, .int .i64 d])).run Tryd.prog w = .ok (.bool false) w := by
  rw [run_neq_struct, eqRect]
  rfl
theorem eqlR (a b c d : Int) (w : World) : (binOp .eql 25 (.agg #[.int .i64 a, .int .i64 b, .int .i64 c, .int .i64 d]) (.agg #[.int .i64 a, .int .i64 b, .int .i64 c, .int .i64 d])).run Tryd.prog w = .ok (.bool true) w := by
  rw [run_eql_struct, eqRect]
  rfl
def ndA : List Nd := [⟨1, [-1], [5, 0]⟩, ⟨2, [0], [1, 2]⟩]
theorem sl_box {W : World} {b B n : Nat} {xs : List Int} (h : Box W b (xs.map (Value.int .i64))) (hn : n = xs.length) (hx : ∀ x ∈ xs, In64 x) (hb : b < B) (hl : n ≤ maxLen) : SlOf RInt 1 (· < B) W (.slice (some ⟨b, 0, none⟩) n n) xs := by
  subst hn
  refine ⟨_, xs.length, rfl, Nat.le_refl _, hl, .inr ⟨b, 0, rfl, hb, fun i x hi => ?_⟩⟩
  refine ⟨[.int .i64 x], rfl, fun j u hu => ?_, rfl, hx x (List.mem_of_getElem? hi)⟩
  cases j with
  | zero =>
    simp at hu
    subst hu
    simp only [Nat.mul_one, Nat.zero_add, Nat.add_zero]
    exact h.cell i (by simp [hi])
  | succ j => simp at hu
theorem in_small {x : Int} (h : -1000 ≤ x ∧ x ≤ 1000) : In64 x := by unfold In64; omega
def clA (p q b c : Nat) : List Value := [.int .i64 1, .slice (some ⟨p, 0, none⟩) 1 1, .slice (some ⟨q, 0, none⟩) 2 2, .int .i64 2, .slice (some ⟨b, 0, none⟩) 1 1, .slice (some ⟨c, 0, none⟩) 2 2]
theorem grA {W : World} {g p q b c B : Nat} (hg : Box W g (clA p q b c)) (hp : Box W p ([-1].map (Value.int .i64))) (hq : Box W q ([5, 0].map (Value.int .i64))) (hb : Box W b ([0].map (Value.int .i64))) (hc : Box W c ([1, 2].map (Value.int .i64))) (hB : W.heap.size ≤ B) : Gr B W (.slice (some ⟨g, 0, none⟩) 2 2) ndA := by
  refine ⟨_, 2, rfl, Nat.le_refl _, by decide, .inr ⟨g, 0, rfl, Nat.lt_of_lt_of_le hg.lt hB, fun i x' hi => ?_⟩⟩
  match i, hi with
  | 0, hi =>
    simp [ndA] at hi; subst hi
    exact ⟨_, rfl, lies3 hg 0 rfl rfl rfl, _, _, rfl, in_small (x := 1) (by decide), sl_box (xs := [-1]) hp rfl (fun z hz => in_small (by simp at hz; omega)) (Nat.lt_of_lt_of_le hp.lt hB) (by decide), sl_box (xs := [5, 0]) hq rfl (fun z hz => in_small (by simp at hz; omega)) (Nat.lt_of_lt_of_le hq.lt hB) (by decide)⟩
  | 1, hi =>
    simp [ndA] at hi; subst hi
    exact ⟨_, rfl, lies3 hg 3 rfl rfl rfl, _, _, rfl, in_small (x := 2) (by decide), sl_box (xs := [0]) hb rfl (fun z hz => in_small (by simp at hz; omega)) (Nat.lt_of_lt_of_le hb.lt hB) (by decide), sl_box (xs := [1, 2]) hc rfl (fun z hz => in_small (by simp at hz; omega)) (Nat.lt_of_lt_of_le hc.lt hB) (by decide)⟩
  | i + 2, hi => simp [ndA] at hi
theorem ordA : ord (insOf ndA) = [0, 1] := by decide
theorem goodA : GoodN ndA 1 := by
  refine ⟨by decide, fun i hi => ?_, by decide, by decide, fun i hi => ?_, fun i hi => ?_, fun i hi => ?_⟩
  · match i, hi with
    | 0, _ => simp [ndA]
    | 1, _ => simp [ndA]
  · rw [ordA]
    match i, hi with
    | 0, _ => simp
    | 1, _ => simp
  · match i, hi with
    | 0, _ => exact (pa_of (n := 2) (by decide)).1
    | 1, _ => exact (pa_of (n := 2) (by decide)).1
  · match i, hi with
    | 0, _ => exact (pa_of (n := 2) (by decide)).2
    | 1, _ => exact (pa_of (n := 2) (by decide)).2
theorem rcA : RcP ⟨0, 0, 1, 1⟩ := by unfold RcP Pl; decide
theorem allA : rl 2 (allN ndA ⟨0, 0, 1, 1⟩ 1).1 = [⟨-1, -2, 2, 3⟩, ⟨0, 0, 1, 1⟩] ∧ (allN ndA ⟨0, 0, 1, 1⟩ 1).2 = ⟨-6, -2, -3, 3⟩ := by
  unfold allN
  rw [ordA]
  exact ⟨by kernel_rfl, by kernel_rfl⟩
/-- a graph and a rectangle, boxed -/
def GW (w W : World) (a b : Value) (r : Rc) : Prop := Box W w.heap.size [a, b] ∧ Box W (w.heap.size + 1) (cl4 r) ∧ Below w.heap.size w W
theorem GW.new (w : World) (a b : Value) (r : Rc) (t1 t2 : TypeId) : GW w ((w.alloc (.cells #[a, b] t1)).alloc (.cells (cs4 r.x0 r.y0 r.x1 r.y1) t2)) a b r := by
  have h0 := Box.new w [a, b] t1
  have h1 := Box.new (w.alloc (.cells #[a, b] t1)) (cl4 r) t2
  rw [size_alloc] at h1
  exact ⟨h0.alloc _, h1, (below_new w _).alloc (by rw [size_alloc]; omega) _⟩
theorem GW.call {w W W' : World} {a b : Value} {r : Rc} (h : GW w W a b r) (hb : Below W.heap.size W W') : GW w W' a b r := ⟨h.1.call hb, h.2.1.call hb, h.2.2.trans (hb.mono h.2.2.size)⟩
def AwW (w W : World) : Prop := Box W (w.heap.size + 1 + 1 + 1 + 1 + 1) [.slice (some ⟨w.heap.size + 1 + 1 + 1 + 1, 0, none⟩) 2 2, .int .i64 1] ∧ Gr W.heap.size W (.slice (some ⟨w.heap.size + 1 + 1 + 1 + 1, 0, none⟩) 2 2) ndA ∧ Below w.heap.size w W
theorem AwW.new (w : World) : AwW w ((((((w.alloc (.cells #[.int .i64 (-1)] 3)).alloc (.cells #[.int .i64 5, .int .i64 0] 3)).alloc (.cells #[.int .i64 0] 3)).alloc (.cells #[.int .i64 1, .int .i64 2] 3)).alloc (.cells #[.int .i64 1, .slice (some ⟨w.heap.size, 0, none⟩) 1 1, .slice (some ⟨w.heap.size + 1, 0, none⟩) 2 2, .int .i64 2, .slice (some ⟨w.heap.size + 1 + 1, 0, none⟩) 1 1, .slice (some ⟨w.heap.size + 1 + 1 + 1, 0, none⟩) 2 2] 48)).alloc (.cells #[.slice (some ⟨w.heap.size + 1 + 1 + 1 + 1, 0, none⟩) 2 2, .int .i64 1] 33)) := by
  have h0 := Box.new w [.int .i64 (-1)] 3
  have h1 := Box.new (w.alloc (.cells #[.int .i64 (-1)] 3)) [.int .i64 5, .int .i64 0] 3
  have h2 := Box.new ((w.alloc (.cells #[.int .i64 (-1)] 3)).alloc (.cells #[.int .i64 5, .int .i64 0] 3)) [.int .i64 0] 3
  have h3 := Box.new (((w.alloc (.cells #[.int .i64 (-1)] 3)).alloc (.cells #[.int .i64 5, .int .i64 0] 3)).alloc (.cells #[.int .i64 0] 3)) [.int .i64 1, .int .i64 2] 3
  have h4 := Box.new ((((w.alloc (.cells #[.int .i64 (-1)] 3)).alloc (.cells #[.int .i64 5, .int .i64 0] 3)).alloc (.cells #[.int .i64 0] 3)).alloc (.cells #[.int .i64 1, .int .i64 2] 3)) (clA w.heap.size (w.heap.size + 1) (w.heap.size + 1 + 1) (w.heap.size + 1 + 1 + 1)) 48
  have h5 := Box.new (((((w.alloc (.cells #[.int .i64 (-1)] 3)).alloc (.cells #[.int .i64 5, .int .i64 0] 3)).alloc (.cells #[.int .i64 0] 3)).alloc (.cells #[.int .i64 1, .int .i64 2] 3)).alloc (.cells (clA w.heap.size (w.heap.size + 1) (w.heap.size + 1 + 1) (w.heap.size + 1 + 1 + 1)).toArray 48)) [.slice (some ⟨w.heap.size + 1 + 1 + 1 + 1, 0, none⟩) 2 2, .int .i64 1] 33
  simp only [size_alloc] at h1 h2 h3 h4 h5
  refine ⟨h5, grA (h4.alloc _) (((((h0.alloc _).alloc _).alloc _).alloc _).alloc _) ((((h1.alloc _).alloc _).alloc _).alloc _) (((h2.alloc _).alloc _).alloc _) ((h3.alloc _).alloc _) (Nat.le_refl _), ?_⟩
  have b0 := below_alloc w (.cells #[.int .i64 (-1)] 3)
  have b1 := b0.alloc b0.size (.cells #[.int .i64 5, .int .i64 0] 3)
  have b2 := b1.alloc b1.size (.cells #[.int .i64 0] 3)
  have b3 := b2.alloc b2.size (.cells #[.int .i64 1, .int .i64 2] 3)
  have b4 := b3.alloc b3.size (.cells (clA w.heap.size (w.heap.size + 1) (w.heap.size + 1 + 1) (w.heap.size + 1 + 1 + 1)).toArray 48)
  exact b4.alloc b4.size _
/-- what the operations of 'l, s := need.All(..)' yield -/
def AT (g n : Nat) (i : Nat) (v : Value) (W : World) : Prop := match i with
  | 0 => v = .agg #[.slice (some ⟨g, 0, none⟩) 2 2, .int .i64 1]
  | 1 => v = rv ⟨0, 0, 1, 1⟩
  | 2 => ∃ O, n ≤ O ∧ v = .tuple #[.slice (some ⟨O, 0, none⟩) 2 2, rv ⟨-6, -2, -3, 3⟩] ∧ Box W O (rcs [⟨-1, -2, 2, 3⟩, ⟨0, 0, 1, 1⟩])
  | 3 => ∃ O, n ≤ O ∧ v = .tuple #[.slice (some ⟨O, 0, none⟩) 2 2, rv ⟨-6, -2, -3, 3⟩] ∧ Box W O (rcs [⟨-1, -2, 2, 3⟩, ⟨0, 0, 1, 1⟩])
  | 4 => ∃ O, n ≤ O ∧ v = .slice (some ⟨O, 0, none⟩) 2 2 ∧ Box W O (rcs [⟨-1, -2, 2, 3⟩, ⟨0, 0, 1, 1⟩])
  | 5 => v = rv ⟨-6, -2, -3, 3⟩
  | 6 => ∃ q, n ≤ q ∧ v = .pointer (some ⟨q, 0, none⟩) ∧ Box W q (cl4 ⟨0, 0, 0, 0⟩)
  | 7 => ∃ O, n ≤ O ∧ v = .slice (some ⟨O, 0, none⟩) 2 2 ∧ Box W O (rcs [⟨-1, -2, 2, 3⟩, ⟨0, 0, 1, 1⟩])
  | _ => True
theorem AT.stab {g n : Nat} (i : Nat) (v : Value) (W W' : World) (h : AT g n i v W) (hb : Below W.heap.size W W') : AT g n i v W' := by
  match i, h with
  | 0, h => exact h
  | 1, h => exact h
  | 2, ⟨b, h1, h2, h3⟩ => exact ⟨b, h1, h2, h3.call hb⟩
  | 3, ⟨b, h1, h2, h3⟩ => exact ⟨b, h1, h2, h3.call hb⟩
  | 4, ⟨b, h1, h2, h3⟩ => exact ⟨b, h1, h2, h3.call hb⟩
  | 5, h => exact h
  | 6, ⟨b, h1, h2, h3⟩ => exact ⟨b, h1, h2, h3.call hb⟩
  | 7, ⟨b, h1, h2, h3⟩ => exact ⟨b, h1, h2, h3.call hb⟩
  | _ + 8, _ => trivial
theorem box_ne {W : World} {g b : Nat} {cs ds : List Value} {u v : Value} (h1 : Box W g cs) (h2 : Box W b ds) (hu : cs[0]? = some u) (hv : ds[0]? = some v) (hne : u ≠ v) : b ≠ g := fun e => by
  subst e
  have a := h1.cell 0 hu
  have c := h2.cell 0 hv
  rw [a] at c
  exact hne (Option.some.inj c)
end Go.Proofs.YtgodhpampaleeaaDoor
