/- Layer 22, the document's answer: Free. -/
import Derived.Test.YtlcefgdiclpcjaaArQ
import Derived.Test.YtlcefgdiclpcjaaArL
namespace Go.Proofs.Ytlcefgdiclpcjaa
open Go.RowKit Go.Bx
attribute [local go_sem ↓] Go.wp_at_zero Go.wp_at_succ
set_option linter.unusedVariables false

theorem put2_own {w5 : World} {n B : Nat} {x y : Value} {G : List Int} {L : List Bool} {vG vL : Value} (h1 : OwnI w5 B vG G) (h2 : OwnB w5 B vL L) (hn : n < B) :
    OwnI ((w5.setCell ⟨n, 0, none⟩ x).setCell ⟨n, 1, none⟩ y) B vG G ∧ OwnB ((w5.setCell ⟨n, 0, none⟩ x).setCell ⟨n, 1, none⟩ y) B vL L :=
  ⟨(h1.put (p := ⟨n, 0, none⟩) hn x).put (p := ⟨n, 1, none⟩) hn y, (h2.put (p := ⟨n, 0, none⟩) hn x).put (p := ⟨n, 1, none⟩) hn y⟩

set_option maxHeartbeats 3200000 in
theorem rfree_c {F : Nat → Prop} (gv lv : Value) (gs : List Int) (ls : List Bool) (at_ gen : Int) (w : World) (hlen : gs.length = ls.length) (hll : ls.length ≤ 1024) (hcalm : ∀ x ∈ gs, x < 9223372036854775807) (hF : ∀ b, F b → b < w.heap.size) (hg : SlOf RInt 1 F w gv gs) (hl : SlOf RBool 1 F w lv ls) :
    Calls Try.prog 42 #[.agg #[gv, lv], .agg #[.int .i64 at_, .int .i64 gen]] w (RfPost w (frG gs ls at_ gen) (frL gs ls at_ gen) (frOk gs ls at_ gen)) := by
  obtain ⟨ga, gc, rfl, _⟩ := hg.ints
  obtain ⟨la, lc, rfl, _⟩ := hl.bools
  have HS : Hid (∀ W, Below w.heap.size w W → SlOf RInt 1 F W (.slice ga gs.length gc) gs ∧ SlOf RBool 1 F W (.slice la ls.length lc) ls) := fun W hb => ⟨hg.same RInt.ok (Same.of_below hb hF), hl.same RBool.ok (Same.of_below hb hF)⟩
  have hin : ∀ x ∈ gs, In64 x := by obtain ⟨_, _, _, _, _, h, _⟩ := hg.ints; exact h
  have HN : Hid (gs.length = ls.length) := hlen
  have HF : Hid (∀ b, F b → b < w.heap.size) := hF
  have HI : Hid (∀ x ∈ gs, In64 x ∧ x < 9223372036854775807) := fun x hx => ⟨hin x hx, hcalm x hx⟩
  clear hg hl hF hlen hin hcalm
  have X0 := ((Box.new w [.slice ga gs.length gc, .slice la ls.length lc] 46).alloc (.cells #[.int .i64 at_, .int .i64 gen] 48)).alloc (.cells #[.slice none 0 0, .slice none 0 0] 46)
  have Y0 := (Box.new (w.alloc (.cells #[.slice ga gs.length gc, .slice la ls.length lc] 46)) [.int .i64 at_, .int .i64 gen] 48).alloc (.cells #[.slice none 0 0, .slice none 0 0] 46)
  have Z0 := Box.new ((w.alloc (.cells #[.slice ga gs.length gc, .slice la ls.length lc] 46)).alloc (.cells #[.int .i64 at_, .int .i64 gen] 48)) [.slice none 0 0, .slice none 0 0] 46
  rw [size_alloc] at Y0 Z0
  rw [size_alloc] at Z0
  have B0 : Below w.heap.size w (((w.alloc (.cells #[.slice ga gs.length gc, .slice la ls.length lc] 46)).alloc (.cells #[.int .i64 at_, .int .i64 gen] 48)).alloc (.cells #[.slice none 0 0, .slice none 0 0] 46)) := (((Below.refl _ w).alloc (Nat.le_refl _) _).alloc (by simp) _).alloc (by simp; omega) _
  go_enter Try.func42, Try.ntmps42
  go_wp2_with fail
  generalize ((w.alloc (.cells #[.slice ga gs.length gc, .slice la ls.length lc] 46)).alloc (.cells #[.int .i64 at_, .int .i64 gen] 48)).alloc (.cells #[.slice none 0 0, .slice none 0 0] 46) = W0 at *
  refine (rhas_c _ _ gs ls at_ gen _ (HS.out _ B0).1 (HS.out _ B0).2 HN.out).mono ?_; rintro e w1 ⟨rfl, hb1⟩
  have X1 := X0.call hb1
  have Y1 := Y0.call hb1
  have Z1 := Z0.call hb1
  have B1 := after B0 B0.size hb1
  have c0 := X1.cell 0 rfl
  have c1 := X1.cell 1 rfl
  have c2 := Y1.cell 0 rfl
  have c3 := Y1.cell 1 rfl
  have z0 := Z1.cell 0 rfl
  have z1 := Z1.cell 1 rfl
  have z2 := Z1.frozen 0
  have z3 := Z1.frozen 1
  clear X0 Y0 Z0 B0 hb1
  have HP : Hid (Box ((w1.setCell ⟨w.heap.size + 1 + 1, 0, none⟩ (.slice ga gs.length gc)).setCell ⟨w.heap.size + 1 + 1, 1, none⟩ (.slice la ls.length lc)) (w.heap.size + 1 + 1) [.slice ga gs.length gc, .slice la ls.length lc] ∧ Below w.heap.size w ((w1.setCell ⟨w.heap.size + 1 + 1, 0, none⟩ (.slice ga gs.length gc)).setCell ⟨w.heap.size + 1 + 1, 1, none⟩ (.slice la ls.length lc))) :=
    ⟨(Z1.self 0 _).self 1 _, (B1.setCell (p := ⟨w.heap.size + 1 + 1, 0, none⟩) (by simp only; omega) _).setCell (p := ⟨w.heap.size + 1 + 1, 1, none⟩) (by simp only; omega) _⟩
  obtain ⟨hb, hhb⟩ : ∃ hb, hb = hasB gs ls at_ gen := ⟨_, rfl⟩
  have hend : Hid (frOk gs ls at_ gen = false → RfPost w (frG gs ls at_ gen) (frL gs ls at_ gen) (frOk gs ls at_ gen) (.returned (.tuple #[.agg #[.slice ga gs.length gc, .slice la ls.length lc], .bool false])) ((w1.setCell ⟨w.heap.size + 1 + 1, 0, none⟩ (.slice ga gs.length gc)).setCell ⟨w.heap.size + 1 + 1, 1, none⟩ (.slice la ls.length lc))) := by
    intro h
    unfold frG frL
    rw [h, if_neg (by simp), if_neg (by simp)]
    exact ⟨_, _, rfl, (HS.out _ HP.out.2).1.mono RInt.ok (fun b hb => Nat.lt_of_lt_of_le (HF.out b hb) HP.out.2.size), (HS.out _ HP.out.2).2.mono RBool.ok (fun b hb => Nat.lt_of_lt_of_le (HF.out b hb) HP.out.2.size), HP.out.2⟩
  have HB : Hid (hb = hasB gs ls at_ gen) := hhb
  rw [← hhb]
  clear hhb
  cases hb
  · have ho : frOk gs ls at_ gen = false := by unfold frOk; rw [← HB.out]; rfl
    have hend2 : Hid _ := hend.out ho
    clear X1 Y1 Z1 B1 ho hend
    go_wp2_with fail
    have r0 := HP.out.1.cell 0 rfl
    have r1 := HP.out.1.cell 1 rfl
    exact bodyPost_ret (v := .tuple #[.agg #[.slice ga gs.length gc, .slice la ls.length lc], .bool false]) (by simp [results, Try.results42, go_sem, r0, r1]) rfl hend2.out
  · by_cases h0 : at_ = 0
    · have ho : frOk gs ls at_ gen = false := by unfold frOk; rw [h0]; simp
      have hend2 : Hid _ := hend.out ho
      have hd : (at_ == 0) = true := by simpa using h0
      clear X1 Y1 Z1 B1 ho hend h0
      go_wp2_with fail
      have r0 := HP.out.1.cell 0 rfl
      have r1 := HP.out.1.cell 1 rfl
      exact bodyPost_ret (v := .tuple #[.agg #[.slice ga gs.length gc, .slice la ls.length lc], .bool false]) (by simp [results, Try.results42, go_sem, r0, r1]) rfl hend2.out
    · have hd : (at_ == 0) = false := by simpa using h0
      have ho : frOk gs ls at_ gen = true := by unfold frOk; rw [← HB.out]; simpa using h0
      obtain ⟨k, hk, hkl, hls, hgk⟩ := (hasB_iff gs ls at_ gen).1 HB.out.symm
      have hmem : gen ∈ gs := by rw [← hgk, List.getD_eq_getElem?_getD, List.getElem?_eq_getElem hkl]; exact List.getElem_mem hkl
      have hg0 : -9223372036854775808 ≤ gen := by have := (HI.out gen hmem).1; unfold In64 at this; omega
      have hg1 : gen < 9223372036854775807 := (HI.out gen hmem).2
      have E2 : Hid (frG gs ls at_ gen = wG gs k (gen + 1) ∧ frL gs ls at_ gen = wL ls k false ∧ frOk gs ls at_ gen = true) := by
        unfold frG frL wG wL
        rw [ho, hk]
        rw [if_pos rfl, if_pos rfl, if_pos hkl, if_pos (by have := HN.out; omega)]
        rw [Int.toNat_natCast, hgk]
        exact ⟨rfl, rfl, rfl⟩
      have E4 : Hid (∀ x ∈ wG gs k (gen + 1), In64 x) := by
        intro x hx
        unfold wG at hx
        rw [if_pos hkl] at hx
        rcases List.mem_or_eq_of_mem_set hx with hx | hx
        · exact (HI.out x hx).1
        · subst hx; unfold In64; omega
      have HK : Hid (k ≤ ls.length) := (by have := HN.out; omega : k ≤ ls.length)
      subst hk
      clear h0 ho hkl hls hgk hmem hend HP HB HI
      go_wp2_with fail
      refine (with_c _ _ gs ls k (gen + 1) false _ HN.out (Nat.le_trans hll (by decide)) HK.out (fun b hb => Nat.lt_of_lt_of_le (HF.out b hb) B1.size) (HS.out _ B1).1 (HS.out _ B1).2).mono ?_; rintro e w5 ⟨a5, p5, b5, q5, rfl, o5, o6, c5⟩
      have hz : w.heap.size + 1 + 1 < w1.heap.size := Z1.lt
      have T0 := put2_own (x := .slice a5 (wG gs k (gen + 1)).length p5) (y := .slice b5 (wL ls k false).length q5) o5 o6 hz
      have Z5 := Z1.call c5
      have B5 := after B1 B1.size c5
      have HT : Hid ((OwnI _ _ _ _ ∧ OwnB _ _ _ _) ∧ Box _ _ _ ∧ Below _ _ _) := ⟨T0, (Z5.self 0 (.slice a5 (wG gs k (gen + 1)).length p5)).self 1 (.slice b5 (wL ls k false).length q5), (B5.setCell (p := ⟨w.heap.size + 1 + 1, 0, none⟩) (by simp only; omega) (.slice a5 (wG gs k (gen + 1)).length p5)).setCell (p := ⟨w.heap.size + 1 + 1, 1, none⟩) (by simp only; omega) (.slice b5 (wL ls k false).length q5)⟩
      have t0 := Z5.cell 0 rfl
      have t1 := Z5.cell 1 rfl
      have t2 := Z5.frozen 0
      have t3 := Z5.frozen 1
      clear T0 o5 o6 c5 X1 Y1 Z1 Z5 B5 B1 hz c0 c1 c2 c3 z0 z1 z2 z3
      go_wp2_with fail
      obtain ⟨⟨r1, r2⟩, r3, r4⟩ := HT.out
      have q0 := r3.cell 0 rfl
      have q1 := r3.cell 1 rfl
      refine bodyPost_ret (v := .tuple #[.agg #[.slice a5 (wG gs k (gen + 1)).length p5, .slice b5 (wL ls k false).length q5], .bool true]) (by simp [results, Try.results42, go_sem, q0, q1]) rfl ?_
      obtain ⟨e1, e2, e3⟩ := E2.out
      rw [e1, e2, e3]
      exact ⟨_, _, rfl, own_slI r1 E4.out, own_slB r2, r4⟩
end Go.Proofs.Ytlcefgdiclpcjaa
