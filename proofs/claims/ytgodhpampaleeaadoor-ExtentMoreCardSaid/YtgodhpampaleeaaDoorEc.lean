/- Texts joined: XEc. -/
import Derived.Test.YtgodhpampaleeaaDoorEa
import Derived.Test.YtgodhpampaleeaaDoorEb
set_option maxRecDepth 4000
/- Layer 13: fore.flooded, fore.Reach. (Printed by mk_ec.py.) -/
namespace Go.Proofs.YtgodhpampaleeaaDoor
open Go.RowKit Go.Bx Go.Od Go.Hp
attribute [local go_sem ↓] Go.wp_at_zero Go.wp_at_succ
set_option linter.unusedVariables false

/-- the first rectangle of a list -/
theorem rcl_first {F : Nat → Prop} {w : World} {v : Value} {rs : List Rc} (h : SlOf RRc 4 F w v rs) (h0 : 0 < rs.length) : ∃ b o c, v = .slice (some ⟨b, o, none⟩) rs.length c ∧ F b ∧ rs.length ≤ c ∧ c ≤ maxLen ∧
    ∀ i, i < rs.length → ∃ q, rs[i]? = some q ∧ w.cell? ⟨b, o + i * 4, none⟩ = some (.int .i64 q.x0) ∧ w.cell? ⟨b, o + i * 4 + 1, none⟩ = some (.int .i64 q.y0) ∧ w.cell? ⟨b, o + i * 4 + 2, none⟩ = some (.int .i64 q.x1) ∧ w.cell? ⟨b, o + i * 4 + 3, none⟩ = some (.int .i64 q.y1) := by
  obtain ⟨a, cap, rfl, h1, h2, h3⟩ := h
  rcases h3 with h3 | ⟨b, o, rfl, hF, h3⟩
  · subst h3; simp at h0
  · refine ⟨b, o, cap, rfl, hF, h1, h2, fun i hi => ?_⟩
    obtain ⟨cs, hl, hc, rfl, _⟩ := h3 i rs[i] (List.getElem?_eq_getElem hi)
    have k0 := hc 0 _ rfl
    have k1 := hc 1 _ rfl
    have k2 := hc 2 _ rfl
    have k3 := hc 3 _ rfl
    exact ⟨rs[i], List.getElem?_eq_getElem hi, by simpa using k0, k1, k2, k3⟩
theorem sl_drop {F : Nat → Prop} {w : World} {b o n c k : Nat} {xs : List Int} (h : SlOf RInt 1 F w (.slice (some ⟨b, o, none⟩) n c) xs) (hk : k < n) : SlOf RInt 1 F w (.slice (some ⟨b, o + k, none⟩) (n - k) (c - k)) (xs.drop k) := by
  obtain ⟨a, cap, hv, h1, h2, h3⟩ := h
  simp only [Value.slice.injEq] at hv
  obtain ⟨rfl, rfl, rfl⟩ := hv
  refine ⟨some ⟨b, o + k, none⟩, c - k, by simp, by simp; omega, by omega, ?_⟩
  rcases h3 with h3 | ⟨b', o', e, hF, h3⟩
  · subst h3; simp at hk
  · cases e
    refine .inr ⟨b, o + k, rfl, hF, fun i x hi => ?_⟩
    obtain ⟨cs, hl, hc, he⟩ := h3 (k + i) x (by rwa [List.getElem?_drop] at hi)
    refine ⟨cs, hl, fun j u hu => ?_, he⟩
    have := hc j u hu
    rw [show o + (k + i) * 1 + j = o + k + i * 1 + j by omega] at this
    exact this
theorem wrap_in {x : Int} (h1 : -9223372036854775808 ≤ x) (h2 : x ≤ 9223372036854775807) : IntKind.i64.wrap x = x := IntWalk.i64_in _ ⟨h1, h2⟩
set_option maxRecDepth 4000 in
set_option maxHeartbeats 3200000 in
theorem flooded_c (iv pv : Value) (ins p : List Int) (w : World) {F : Nat → Prop} (hF : ∀ b, F b → b < w.heap.size) (hp : SlOf RInt 1 F w pv p) (hiv : ∃ a n c, iv = .slice a n c) (hok : RaOk ⟨6, ins, p⟩) :
    Calls Tryd.prog 55 #[.agg #[.int .i64 6, iv, pv]] w (PPost w (rv (if floodB ⟨6, ins, p⟩ = true then Rc.zero else someR (pbox (p.drop 4))))) := by
  obtain ⟨ia, im, ic, rfl⟩ := hiv
  obtain ⟨l8, hby, hpl⟩ := hok.fl rfl
  dsimp only at l8 hpl
  obtain ⟨b, o, c, rfl, hFb, hc, hcap, hcm⟩ := sl_cells hp (by omega)
  have c0' := hc 0 (by omega)
  rw [Nat.add_zero] at c0'
  have c1' := hc 1 (by omega)
  have c2' := hc 2 (by omega)
  have c3' := hc 3 (by omega)
  obtain ⟨b00, b01⟩ := hby 0 (by omega)
  obtain ⟨b10, b11⟩ := hby 1 (by omega)
  obtain ⟨b20, b21⟩ := hby 2 (by omega)
  obtain ⟨b30, b31⟩ := hby 3 (by omega)
  obtain ⟨q0, hq0⟩ : ∃ q, q = p.getD 0 0 := ⟨_, rfl⟩
  obtain ⟨q1, hq1⟩ : ∃ q, q = p.getD 1 0 := ⟨_, rfl⟩
  obtain ⟨q2, hq2⟩ : ∃ q, q = p.getD 2 0 := ⟨_, rfl⟩
  obtain ⟨q3, hq3⟩ : ∃ q, q = p.getD 3 0 := ⟨_, rfl⟩
  unfold par at b00 b01 b10 b11 b20 b21 b30 b31
  dsimp only at b00 b01 b10 b11 b20 b21 b30 b31
  rw [← hq0] at b00 b01 c0'
  rw [← hq1] at b10 b11 c1'
  rw [← hq2] at b20 b21 c2'
  rw [← hq3] at b30 b31 c3'
  obtain ⟨fb, hfb⟩ : ∃ f, f = floodB ⟨6, ins, p⟩ := ⟨_, rfl⟩
  have HD : Hid (fb = (q0 + q1 + q2 + q3 == 0)) := by
    have : fb = (q0 + q1 + q2 + q3 == 0) := by rw [hfb, hq0, hq1, hq2, hq3]; rfl
    exact this
  rw [← hfb]
  obtain ⟨R, hR⟩ : ∃ R, R = (if fb = true then Rc.zero else someR (pbox (p.drop 4))) := ⟨_, rfl⟩
  have HR : Hid (R = (if fb = true then Rc.zero else someR (pbox (p.drop 4)))) := Lib.hid hR
  rw [← hR]
  clear hR
  have hlt := hF b hFb
  have H0 : Hid (Bag w ((w.alloc (.cells #[.int .i64 6, .slice ia im ic, .slice (some ⟨b, o, none⟩) p.length c] 48)).alloc (.cells (cs4 0 0 0 0) 25)) [(w.heap.size, [.int .i64 6, .slice ia im ic, .slice (some ⟨b, o, none⟩) p.length c]), (w.heap.size + 1, cl4 ⟨0, 0, 0, 0⟩)]) := bag2 w [.int .i64 6, .slice ia im ic, .slice (some ⟨b, o, none⟩) p.length c] (cl4 ⟨0, 0, 0, 0⟩) _ _
  have HP : Hid (SlOf RInt 1 F w (.slice (some ⟨b, o, none⟩) p.length c) p ∧ (∀ b, F b → b < w.heap.size) ∧ p.length = 8 ∧ RcP (pbox (p.drop 4))) := ⟨hp, hF, l8, hpl⟩
  clear hp hF hby hc hok hpl hfb hq0 hq1 hq2 hq3
  rw [l8] at H0 ⊢
  rw [l8] at hcap
  clear l8
  go_enter Tryd.func55, Tryd.ntmps55
  go_wp2_with fail
  generalize ((w.alloc (.cells #[.int .i64 6, .slice ia im ic, .slice (some ⟨b, o, none⟩) 8 c] 48)).alloc (.cells (cs4 0 0 0 0) 25)) = W0 at *
  have g0 := H0.out.cell 0 rfl 0 rfl
  have g1 := H0.out.cell 0 rfl 1 rfl
  have g2 := H0.out.cell 0 rfl 2 rfl
  have c0 := (H0.out.below.cell (p := ⟨b, o, none⟩) hlt).trans c0'
  have c1 := (H0.out.below.cell (p := ⟨b, o + 1, none⟩) hlt).trans c1'
  have c2 := (H0.out.below.cell (p := ⟨b, o + 2, none⟩) hlt).trans c2'
  have c3 := (H0.out.below.cell (p := ⟨b, o + 3, none⟩) hlt).trans c3'
  have k0 := fun s : Kept W0.heap.size W0 => s.at g0
  have k1 := fun s : Kept W0.heap.size W0 => s.at g1
  have k2 := fun s : Kept W0.heap.size W0 => s.at g2
  have k3 := fun s : Kept W0.heap.size W0 => s.at c0
  have k4 := fun s : Kept W0.heap.size W0 => s.at c1
  have k5 := fun s : Kept W0.heap.size W0 => s.at c2
  have k6 := fun s : Kept W0.heap.size W0 => s.at c3
  unfold maxLen at hcm
  have s1 : IntKind.i64.wrap (q0 + q1) = q0 + q1 := wrap_in (by omega) (by omega)
  have s2 : IntKind.i64.wrap (q0 + q1 + q2) = q0 + q1 + q2 := wrap_in (by clear s1; omega) (by clear s1; omega)
  have s3 : IntKind.i64.wrap (q0 + q1 + q2 + q3) = q0 + q1 + q2 + q3 := wrap_in (by clear s1 s2; omega) (by clear s1 s2; omega)
  clear c0' c1' c2' c3' g0 g1 g2 c0 c1 c2 c3
  refine wp_region_kept W0.heap.size (by kernel_rfl) (by kernel_rfl) ?_
  repeat (go_big_quiet_step (fail))
  refine wpQuiet_nil ?_
  rintro _ ⟨s, rfl⟩
  clear s1 s2 s3 k0 k1 k2 k3 k4 k5 k6
  have H1 : Hid (Bag w s.w [(w.heap.size, [.int .i64 6, .slice ia im ic, .slice (some ⟨b, o, none⟩) 8 c]), (w.heap.size + 1, cl4 ⟨0, 0, 0, 0⟩)]) := H0.out.call s.below
  clear H0
  generalize s.w = W1 at *
  clear s
  have g0 := H1.out.cell 0 rfl 0 rfl
  have g1 := H1.out.cell 0 rfl 1 rfl
  have g2 := H1.out.cell 0 rfl 2 rfl
  obtain ⟨r0, r1, r2, r3⟩ := box4 (H1.out.box 1 rfl)
  have f0 := H1.out.frozen 1 rfl 0
  have f1 := H1.out.frozen 1 rfl 1
  have f2 := H1.out.frozen 1 rfl 2
  have f3 := H1.out.frozen 1 rfl 3
  cases fb with
  | true =>
    have hd : (q0 + q1 + q2 + q3 == 0) = true := HD.out.symm
    obtain rfl : R = Rc.zero := HR.out.trans (if_pos rfl)
    clear HD HR
    go_wp2_with fail
    have H2 := H1.out.set4 1 rfl (.int .i64 0) (.int .i64 0) (.int .i64 0) (.int .i64 0)
    exact ret_rect (g := w.heap.size + 1) (r := Rc.zero) rfl rfl (H2.box 1 rfl) rfl ⟨rfl, H2.below⟩
  | false =>
    have hd : (q0 + q1 + q2 + q3 == 0) = false := HD.out.symm
    have hcne : ¬ c = 4 := by omega
    clear HD
    obtain ⟨q, hq⟩ : ∃ q, q = pbox (p.drop 4) := ⟨_, rfl⟩
    have HB : Hid (∀ W, Below W1.heap.size W1 W → Calls Tryd.prog 56 #[.slice (some ⟨b, o + 4, none⟩) 4 (c - 4)] W (PPost W (rv q))) := fun W hb => by
      have hsl := sl_drop HP.out.1 (k := 4) (by rw [HP.out.2.2.1]; omega)
      rw [HP.out.2.2.1] at hsl
      rw [hq]
      exact fbox_c _ _ W (hsl.same RInt.ok (Same.of_below (H1.out.below.trans (hb.mono H1.out.below.size)) HP.out.2.1)) (by simp [HP.out.2.2.1])
    have HS : Hid (∀ W, Calls Tryd.prog 53 #[rv q] W (PPost W (rv (someR q)))) := fun W => fsome_c q W
    have hz : R = someR q := by rw [HR.out, hq]; exact if_neg (by decide)
    rw [← hz] at HS
    clear HR hq hz r0 r1 r2 r3 f0 f1 f2 f3
    have hc4 : 4 ≤ c := by omega
    go_wp2_with fail
    refine (HB.out _ (Below.refl _ _)).mono ?_; rintro e W2 ⟨rfl, hb2⟩
    clear g0 g1 g2
    go_wp2_with fail
    refine (HS.out _).mono ?_; rintro e W3 ⟨rfl, hb3⟩
    have H3 : Hid (Bag w W3 [(w.heap.size, [.int .i64 6, .slice ia im ic, .slice (some ⟨b, o, none⟩) 8 c]), (w.heap.size + 1, cl4 ⟨0, 0, 0, 0⟩)]) := (H1.out.call hb2).call hb3
    obtain ⟨r0, r1, r2, r3⟩ := box4 (H3.out.box 1 rfl)
    have f0 := H3.out.frozen 1 rfl 0
    have f1 := H3.out.frozen 1 rfl 1
    have f2 := H3.out.frozen 1 rfl 2
    have f3 := H3.out.frozen 1 rfl 3
    clear hb2 hb3 H1 HB HS
    go_wp2_with fail
    have H4 := H3.out.set4 1 rfl (.int .i64 R.x0) (.int .i64 R.y0) (.int .i64 R.x1) (.int .i64 R.y1)
    exact ret_rect (g := w.heap.size + 1) (r := R) rfl rfl (H4.box 1 rfl) rfl ⟨rfl, H4.below⟩
end Go.Proofs.YtgodhpampaleeaaDoor
