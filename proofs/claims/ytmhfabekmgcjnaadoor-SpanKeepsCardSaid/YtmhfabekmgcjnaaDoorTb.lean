/- Layer 17: the law's own 'right', 'awake'. (Printed by mk_aw17.py.) -/
import Derived.Test.YtmhfabekmgcjnaaDoorTa
import Derived.Test.YtmhfabekmgcjnaaDoorPw
namespace Go.Proofs.YtmhfabekmgcjnaaDoor
open Go.RowKit Go.Bx Go.Od Go.Hp Go.Sort
attribute [local go_sem ↓] Go.wp_at_zero Go.wp_at_succ
set_option linter.unusedVariables false

theorem right17_c (B : Nat) (nv : Value) (nds : List Nd) (out : Int) (w : World) (ht : Tabs w) (hg : Gr B w nv nds) (hB : B ≤ w.heap.size) :
    Calls Tryd.prog 8 #[.agg #[nv, .int .i64 out]] w (PPost w (.bool (rightB nds out))) := by
  have HG : Hid (Gr B w nv nds ∧ Tabs w) := ⟨hg, ht⟩
  obtain ⟨ga, gc, rfl⟩ := hg.isSl
  obtain ⟨f, hf⟩ : ∃ f, f = fewB nds 12 := ⟨_, rfl⟩
  have HF : Hid (f = fewB nds 12) := hf
  clear hg ht hf
  go_enter Tryd.func8, Tryd.ntmps8
  go_wp2_with fail
  have X := Box.new w [.slice ga nds.length gc, .int .i64 out] 24
  have hb1 := below_alloc w (.cells #[.slice ga nds.length gc, .int .i64 out] 24)
  obtain ⟨W1, hW1⟩ : ∃ W, W = w.alloc (.cells #[.slice ga nds.length gc, .int .i64 out] 24) := ⟨_, rfl⟩
  rw [← hW1] at X hb1 ⊢
  clear hW1
  refine (rfew_c B _ nds out 12 W1 (by omega) (HG.out.1.below hb1 hB)).mono ?_; rintro e w2 ⟨rfl, hb2⟩
  have X2 := X.call hb2
  have g0 := X2.cell 0 rfl
  have g1 := X2.cell 1 rfl
  have HB : Hid (Below w.heap.size w w2) := hb1.trans (hb2.mono hb1.size)
  rw [← HF.out]
  clear X hb1 hb2
  cases f with
  | false =>
    have HE : Hid (rightB nds out = false) := by
      have : rightB nds out = false := by unfold rightB; rw [← HF.out]; rfl
      exact this
    go_wp2_with fail
    go_ret
    exact ⟨ret_b HE.out.symm, HB.out⟩
  | true =>
    obtain ⟨h1, h2⟩ := few_of HF.out.symm (by omega)
    have HN : Hid (∀ i, i < nds.length → (nds.getD i Nd.none).ins.length ≤ 1000) := h2
    clear h2
    go_wp2_with fail
    refine (check_c B _ nds out w2 (by omega) HN.out (HG.out.2.below HB.out) (HG.out.1.below HB.out hB) (Nat.le_trans hB HB.out.size)).mono ?_; rintro e w3 ⟨rfl, hb3⟩
    have HB3 : Hid (Below w.heap.size w w3) := HB.out.trans (hb3.mono HB.out.size)
    obtain ⟨c, hc⟩ : ∃ c, c = chkB nds out := ⟨_, rfl⟩
    rw [← hc]
    have HE : Hid (rightB nds out = (c == 0)) := by
      have : rightB nds out = (c == 0) := by unfold rightB; rw [← HF.out, hc]; rfl
      exact this
    clear hb3 g0 g1 X2 hc HN
    go_wp2_with fail
    go_ret
    exact ⟨ret_b HE.out.symm, HB3.out⟩
/-! ### awake -/
theorem sl_box {W : World} {b B n : Nat} {xs : List Int} (h : Box W b (xs.map (Value.int .i64))) (hn : n = xs.length) (hx : ∀ x ∈ xs, In64 x) (hb : b < B) (hl : n ≤ maxLen) : SlOf RInt 1 (· < B) W (.slice (some ⟨b, 0, none⟩) n n) xs := by
  subst hn
  refine ⟨_, xs.length, rfl, Nat.le_refl _, hl, .inr ⟨b, 0, rfl, hb, fun i x hi => ?_⟩⟩
  refine ⟨[.int .i64 x], rfl, fun j u hu => ?_, rfl, hx x (List.mem_of_getElem? hi)⟩
  cases j with
  | zero =>
    simp at hu
    subst hu
    simp only [Nat.mul_one, Nat.zero_add, Nat.add_zero]
    exact h.cell i (by simp [hi])
  | succ j => simp at hu
theorem in_small {x : Int} (h : -1000 ≤ x ∧ x ≤ 1000) : In64 x := by unfold In64; omega
def ndB : List Nd := [⟨2, [-1], [1, 1]⟩, ⟨9, [0, 2], []⟩, ⟨2, [-1], [1, 1]⟩]
def lB : List (List Int) := [[0], [2], [1]]
def clB (p q r : Nat) : List Value := [.int .i64 2, .slice (some ⟨p, 0, none⟩) 1 1, .slice (some ⟨q, 0, none⟩) 2 2, .int .i64 9, .slice (some ⟨r, 0, none⟩) 2 2, .slice none 0 0, .int .i64 2, .slice (some ⟨p, 0, none⟩) 1 1, .slice (some ⟨q, 0, none⟩) 2 2]
theorem grB {W : World} {g p q r B : Nat} (hg : Box W g (clB p q r)) (hp : Box W p ([-1].map (Value.int .i64))) (hq : Box W q ([1, 1].map (Value.int .i64))) (hr : Box W r ([0, 2].map (Value.int .i64))) (hB : W.heap.size ≤ B) : Gr B W (.slice (some ⟨g, 0, none⟩) 3 3) ndB := by
  have s1 : SlOf RInt 1 (· < B) W (.slice (some ⟨p, 0, none⟩) 1 1) [-1] := sl_box hp rfl (fun z hz => in_small (by simp at hz; omega)) (Nat.lt_of_lt_of_le hp.lt hB) (by decide)
  have s2 : SlOf RInt 1 (· < B) W (.slice (some ⟨q, 0, none⟩) 2 2) [1, 1] := sl_box hq rfl (fun z hz => in_small (by simp at hz; omega)) (Nat.lt_of_lt_of_le hq.lt hB) (by decide)
  have s3 : SlOf RInt 1 (· < B) W (.slice (some ⟨r, 0, none⟩) 2 2) [0, 2] := sl_box hr rfl (fun z hz => in_small (by simp at hz; omega)) (Nat.lt_of_lt_of_le hr.lt hB) (by decide)
  refine ⟨_, 3, rfl, Nat.le_refl _, by decide, .inr ⟨g, 0, rfl, Nat.lt_of_lt_of_le hg.lt hB, fun i x' hi => ?_⟩⟩
  match i, hi with
  | 0, hi =>
    simp [ndB] at hi; subst hi
    exact ⟨_, rfl, lies3 hg 0 rfl rfl rfl, _, _, rfl, in_small (x := 2) (by decide), s1, s2⟩
  | 1, hi =>
    simp [ndB] at hi; subst hi
    exact ⟨_, rfl, lies3 hg 3 rfl rfl rfl, _, _, rfl, in_small (x := 9) (by decide), s3, sl_nil _ _⟩
  | 2, hi =>
    simp [ndB] at hi; subst hi
    exact ⟨_, rfl, lies3 hg 6 rfl rfl rfl, _, _, rfl, in_small (x := 2) (by decide), s1, s2⟩
  | i + 3, hi => simp [ndB] at hi
theorem llB {W : World} {o a b c B : Nat} (ho : Box W o [.slice (some ⟨a, 0, none⟩) 1 1, .slice (some ⟨b, 0, none⟩) 1 1, .slice (some ⟨c, 0, none⟩) 1 1]) (ha : Box W a ([0].map (Value.int .i64))) (hb : Box W b ([2].map (Value.int .i64))) (hc : Box W c ([1].map (Value.int .i64))) (hB : W.heap.size ≤ B) : LL B W (.slice (some ⟨o, 0, none⟩) 3 3) lB := by
  have one : ∀ {j : Nat} {x : Int} {v : Value}, W.cell? ⟨o, j, none⟩ = some v → LiesAt W o (0 + j * 1) [v] := fun {j x v} h k u hu => by
    cases k with
    | zero => simp at hu; subst hu; simpa using h
    | succ k => simp at hu
  refine ⟨_, 3, rfl, Nat.le_refl _, by decide, .inr ⟨o, 0, rfl, Nat.lt_of_lt_of_le ho.lt hB, fun i x' hi => ?_⟩⟩
  match i, hi with
  | 0, hi =>
    simp [lB] at hi; subst hi
    exact ⟨_, rfl, one (x := 0) (ho.cell 0 rfl), _, rfl, sl_box (xs := [0]) ha rfl (fun z hz => in_small (by simp at hz; omega)) (Nat.lt_of_lt_of_le ha.lt hB) (by decide)⟩
  | 1, hi =>
    simp [lB] at hi; subst hi
    exact ⟨_, rfl, one (x := 0) (ho.cell 1 rfl), _, rfl, sl_box (xs := [2]) hb rfl (fun z hz => in_small (by simp at hz; omega)) (Nat.lt_of_lt_of_le hb.lt hB) (by decide)⟩
  | 2, hi =>
    simp [lB] at hi; subst hi
    exact ⟨_, rfl, one (x := 0) (ho.cell 2 rfl), _, rfl, sl_box (xs := [1]) hc rfl (fun z hz => in_small (by simp at hz; omega)) (Nat.lt_of_lt_of_le hc.lt hB) (by decide)⟩
  | i + 3, hi => simp [lB] at hi
theorem okB : GrpOk ndB lB := by
  refine ⟨by decide, fun i => ?_, fun i x hx => ?_, by decide, fun g hg => ?_⟩
  · match i with
    | 0 => decide
    | 1 => decide
    | 2 => decide
    | i + 3 => simp [ndB, Nd.none]
  · match i, hx with
    | 0, hx => simp [ndB] at hx; subst hx; decide
    | 1, hx => simp [ndB] at hx; rcases hx with rfl | rfl <;> decide
    | 2, hx => simp [ndB] at hx; subst hx; decide
    | i + 3, hx => simp [ndB, Nd.none] at hx
  · simp [lB] at hg
    rcases hg with rfl | rfl | rfl <;> exact ⟨by decide, fun x hx => by simp at hx; subst hx; decide⟩
theorem rdB : lB.map (rdS ndB) = [[-1], [-1], [0, 2]] := by
  have h : ∀ g ∈ lB, rdS ndB g = rfR ndB g (ndB.length + 1) := fun g hg => (rfR_eq fun k hk x hx => okB.rng _ x hx).symm
  rw [List.map_congr_left h]
  decide
theorem unBB : (List.range lB.length).map (unA (lB.map (rdS ndB)) lB 1) = [2, 2, 3] := by
  rw [rdB]
  decide
def AwB (w W : World) : Prop := Box W (w.heap.size + 1 + 1 + 1 + 1 + 1) [.slice (some ⟨w.heap.size + 1 + 1 + 1 + 1, 0, none⟩) 3 3, .int .i64 1] ∧ Gr W.heap.size W (.slice (some ⟨w.heap.size + 1 + 1 + 1 + 1, 0, none⟩) 3 3) ndB ∧ LL W.heap.size W (.slice (some ⟨w.heap.size + 1 + 1 + 1 + 1 + 1 + 1 + 1 + 1 + 1, 0, none⟩) 3 3) lB ∧ Below w.heap.size w W
theorem AwB.new (w : World) : AwB w ((((((((((w.alloc (.cells #[.int .i64 (-1)] 3)).alloc (.cells #[.int .i64 1, .int .i64 1] 3)).alloc (.cells #[.int .i64 2, .slice (some ⟨w.heap.size, 0, none⟩) 1 1, .slice (some ⟨w.heap.size + 1, 0, none⟩) 2 2] 36)).alloc (.cells #[.int .i64 0, .int .i64 2] 3)).alloc (.cells #[.int .i64 2, .slice (some ⟨w.heap.size, 0, none⟩) 1 1, .slice (some ⟨w.heap.size + 1, 0, none⟩) 2 2, .int .i64 9, .slice (some ⟨w.heap.size + 1 + 1 + 1, 0, none⟩) 2 2, .slice none 0 0, .int .i64 2, .slice (some ⟨w.heap.size, 0, none⟩) 1 1, .slice (some ⟨w.heap.size + 1, 0, none⟩) 2 2] 36)).alloc (.cells #[.slice (some ⟨w.heap.size + 1 + 1 + 1 + 1, 0, none⟩) 3 3, .int .i64 1] 24)).alloc (.cells #[.int .i64 0] 3)).alloc (.cells #[.int .i64 2] 3)).alloc (.cells #[.int .i64 1] 3)).alloc (.cells #[.slice (some ⟨w.heap.size + 1 + 1 + 1 + 1 + 1 + 1, 0, none⟩) 1 1, .slice (some ⟨w.heap.size + 1 + 1 + 1 + 1 + 1 + 1 + 1, 0, none⟩) 1 1, .slice (some ⟨w.heap.size + 1 + 1 + 1 + 1 + 1 + 1 + 1 + 1, 0, none⟩) 1 1] 31)) := by
  have h0 := Box.new w [.int .i64 (-1)] 3
  have h1 := Box.new (w.alloc (.cells #[.int .i64 (-1)] 3)) [.int .i64 1, .int .i64 1] 3
  have h2 := Box.new ((w.alloc (.cells #[.int .i64 (-1)] 3)).alloc (.cells #[.int .i64 1, .int .i64 1] 3)) [.int .i64 2, .slice (some ⟨w.heap.size, 0, none⟩) 1 1, .slice (some ⟨w.heap.size + 1, 0, none⟩) 2 2] 36
  have h3 := Box.new (((w.alloc (.cells #[.int .i64 (-1)] 3)).alloc (.cells #[.int .i64 1, .int .i64 1] 3)).alloc (.cells #[.int .i64 2, .slice (some ⟨w.heap.size, 0, none⟩) 1 1, .slice (some ⟨w.heap.size + 1, 0, none⟩) 2 2] 36)) [.int .i64 0, .int .i64 2] 3
  have h4 := Box.new ((((w.alloc (.cells #[.int .i64 (-1)] 3)).alloc (.cells #[.int .i64 1, .int .i64 1] 3)).alloc (.cells #[.int .i64 2, .slice (some ⟨w.heap.size, 0, none⟩) 1 1, .slice (some ⟨w.heap.size + 1, 0, none⟩) 2 2] 36)).alloc (.cells #[.int .i64 0, .int .i64 2] 3)) [.int .i64 2, .slice (some ⟨w.heap.size, 0, none⟩) 1 1, .slice (some ⟨w.heap.size + 1, 0, none⟩) 2 2, .int .i64 9, .slice (some ⟨w.heap.size + 1 + 1 + 1, 0, none⟩) 2 2, .slice none 0 0, .int .i64 2, .slice (some ⟨w.heap.size, 0, none⟩) 1 1, .slice (some ⟨w.heap.size + 1, 0, none⟩) 2 2] 36
  have h5 := Box.new (((((w.alloc (.cells #[.int .i64 (-1)] 3)).alloc (.cells #[.int .i64 1, .int .i64 1] 3)).alloc (.cells #[.int .i64 2, .slice (some ⟨w.heap.size, 0, none⟩) 1 1, .slice (some ⟨w.heap.size + 1, 0, none⟩) 2 2] 36)).alloc (.cells #[.int .i64 0, .int .i64 2] 3)).alloc (.cells #[.int .i64 2, .slice (some ⟨w.heap.size, 0, none⟩) 1 1, .slice (some ⟨w.heap.size + 1, 0, none⟩) 2 2, .int .i64 9, .slice (some ⟨w.heap.size + 1 + 1 + 1, 0, none⟩) 2 2, .slice none 0 0, .int .i64 2, .slice (some ⟨w.heap.size, 0, none⟩) 1 1, .slice (some ⟨w.heap.size + 1, 0, none⟩) 2 2] 36)) [.slice (some ⟨w.heap.size + 1 + 1 + 1 + 1, 0, none⟩) 3 3, .int .i64 1] 24
  have h6 := Box.new ((((((w.alloc (.cells #[.int .i64 (-1)] 3)).alloc (.cells #[.int .i64 1, .int .i64 1] 3)).alloc (.cells #[.int .i64 2, .slice (some ⟨w.heap.size, 0, none⟩) 1 1, .slice (some ⟨w.heap.size + 1, 0, none⟩) 2 2] 36)).alloc (.cells #[.int .i64 0, .int .i64 2] 3)).alloc (.cells #[.int .i64 2, .slice (some ⟨w.heap.size, 0, none⟩) 1 1, .slice (some ⟨w.heap.size + 1, 0, none⟩) 2 2, .int .i64 9, .slice (some ⟨w.heap.size + 1 + 1 + 1, 0, none⟩) 2 2, .slice none 0 0, .int .i64 2, .slice (some ⟨w.heap.size, 0, none⟩) 1 1, .slice (some ⟨w.heap.size + 1, 0, none⟩) 2 2] 36)).alloc (.cells #[.slice (some ⟨w.heap.size + 1 + 1 + 1 + 1, 0, none⟩) 3 3, .int .i64 1] 24)) [.int .i64 0] 3
  have h7 := Box.new (((((((w.alloc (.cells #[.int .i64 (-1)] 3)).alloc (.cells #[.int .i64 1, .int .i64 1] 3)).alloc (.cells #[.int .i64 2, .slice (some ⟨w.heap.size, 0, none⟩) 1 1, .slice (some ⟨w.heap.size + 1, 0, none⟩) 2 2] 36)).alloc (.cells #[.int .i64 0, .int .i64 2] 3)).alloc (.cells #[.int .i64 2, .slice (some ⟨w.heap.size, 0, none⟩) 1 1, .slice (some ⟨w.heap.size + 1, 0, none⟩) 2 2, .int .i64 9, .slice (some ⟨w.heap.size + 1 + 1 + 1, 0, none⟩) 2 2, .slice none 0 0, .int .i64 2, .slice (some ⟨w.heap.size, 0, none⟩) 1 1, .slice (some ⟨w.heap.size + 1, 0, none⟩) 2 2] 36)).alloc (.cells #[.slice (some ⟨w.heap.size + 1 + 1 + 1 + 1, 0, none⟩) 3 3, .int .i64 1] 24)).alloc (.cells #[.int .i64 0] 3)) [.int .i64 2] 3
  have h8 := Box.new ((((((((w.alloc (.cells #[.int .i64 (-1)] 3)).alloc (.cells #[.int .i64 1, .int .i64 1] 3)).alloc (.cells #[.int .i64 2, .slice (some ⟨w.heap.size, 0, none⟩) 1 1, .slice (some ⟨w.heap.size + 1, 0, none⟩) 2 2] 36)).alloc (.cells #[.int .i64 0, .int .i64 2] 3)).alloc (.cells #[.int .i64 2, .slice (some ⟨w.heap.size, 0, none⟩) 1 1, .slice (some ⟨w.heap.size + 1, 0, none⟩) 2 2, .int .i64 9, .slice (some ⟨w.heap.size + 1 + 1 + 1, 0, none⟩) 2 2, .slice none 0 0, .int .i64 2, .slice (some ⟨w.heap.size, 0, none⟩) 1 1, .slice (some ⟨w.heap.size + 1, 0, none⟩) 2 2] 36)).alloc (.cells #[.slice (some ⟨w.heap.size + 1 + 1 + 1 + 1, 0, none⟩) 3 3, .int .i64 1] 24)).alloc (.cells #[.int .i64 0] 3)).alloc (.cells #[.int .i64 2] 3)) [.int .i64 1] 3
  have h9 := Box.new (((((((((w.alloc (.cells #[.int .i64 (-1)] 3)).alloc (.cells #[.int .i64 1, .int .i64 1] 3)).alloc (.cells #[.int .i64 2, .slice (some ⟨w.heap.size, 0, none⟩) 1 1, .slice (some ⟨w.heap.size + 1, 0, none⟩) 2 2] 36)).alloc (.cells #[.int .i64 0, .int .i64 2] 3)).alloc (.cells #[.int .i64 2, .slice (some ⟨w.heap.size, 0, none⟩) 1 1, .slice (some ⟨w.heap.size + 1, 0, none⟩) 2 2, .int .i64 9, .slice (some ⟨w.heap.size + 1 + 1 + 1, 0, none⟩) 2 2, .slice none 0 0, .int .i64 2, .slice (some ⟨w.heap.size, 0, none⟩) 1 1, .slice (some ⟨w.heap.size + 1, 0, none⟩) 2 2] 36)).alloc (.cells #[.slice (some ⟨w.heap.size + 1 + 1 + 1 + 1, 0, none⟩) 3 3, .int .i64 1] 24)).alloc (.cells #[.int .i64 0] 3)).alloc (.cells #[.int .i64 2] 3)).alloc (.cells #[.int .i64 1] 3)) [.slice (some ⟨w.heap.size + 1 + 1 + 1 + 1 + 1 + 1, 0, none⟩) 1 1, .slice (some ⟨w.heap.size + 1 + 1 + 1 + 1 + 1 + 1 + 1, 0, none⟩) 1 1, .slice (some ⟨w.heap.size + 1 + 1 + 1 + 1 + 1 + 1 + 1 + 1, 0, none⟩) 1 1] 31
  simp only [size_alloc] at h1 h2 h3 h4 h5 h6 h7 h8 h9
  have b0 := below_alloc w (.cells #[.int .i64 (-1)] 3)
  have b1 := b0.alloc b0.size (.cells #[.int .i64 1, .int .i64 1] 3)
  have b2 := b1.alloc b1.size (.cells #[.int .i64 2, .slice (some ⟨w.heap.size, 0, none⟩) 1 1, .slice (some ⟨w.heap.size + 1, 0, none⟩) 2 2] 36)
  have b3 := b2.alloc b2.size (.cells #[.int .i64 0, .int .i64 2] 3)
  have b4 := b3.alloc b3.size (.cells #[.int .i64 2, .slice (some ⟨w.heap.size, 0, none⟩) 1 1, .slice (some ⟨w.heap.size + 1, 0, none⟩) 2 2, .int .i64 9, .slice (some ⟨w.heap.size + 1 + 1 + 1, 0, none⟩) 2 2, .slice none 0 0, .int .i64 2, .slice (some ⟨w.heap.size, 0, none⟩) 1 1, .slice (some ⟨w.heap.size + 1, 0, none⟩) 2 2] 36)
  have b5 := b4.alloc b4.size (.cells #[.slice (some ⟨w.heap.size + 1 + 1 + 1 + 1, 0, none⟩) 3 3, .int .i64 1] 24)
  have b6 := b5.alloc b5.size (.cells #[.int .i64 0] 3)
  have b7 := b6.alloc b6.size (.cells #[.int .i64 2] 3)
  have b8 := b7.alloc b7.size (.cells #[.int .i64 1] 3)
  have b9 := b8.alloc b8.size (.cells #[.slice (some ⟨w.heap.size + 1 + 1 + 1 + 1 + 1 + 1, 0, none⟩) 1 1, .slice (some ⟨w.heap.size + 1 + 1 + 1 + 1 + 1 + 1 + 1, 0, none⟩) 1 1, .slice (some ⟨w.heap.size + 1 + 1 + 1 + 1 + 1 + 1 + 1 + 1, 0, none⟩) 1 1] 31)
  exact ⟨((((h5.alloc _).alloc _).alloc _).alloc _), grB (g := w.heap.size + 1 + 1 + 1 + 1) (p := w.heap.size) (q := w.heap.size + 1) (r := w.heap.size + 1 + 1 + 1) (((((h4.alloc _).alloc _).alloc _).alloc _).alloc _) (((((((((h0.alloc _).alloc _).alloc _).alloc _).alloc _).alloc _).alloc _).alloc _).alloc _) ((((((((h1.alloc _).alloc _).alloc _).alloc _).alloc _).alloc _).alloc _).alloc _) ((((((h3.alloc _).alloc _).alloc _).alloc _).alloc _).alloc _) (Nat.le_refl _), llB h9 (((h6.alloc _).alloc _).alloc _) ((h7.alloc _).alloc _) (h8.alloc _) (Nat.le_refl _), b9⟩
theorem sl_new1 (W : World) (xs : List Int) (n : Nat) (hn : n = xs.length) (hx : ∀ x ∈ xs, In64 x) (hl : n ≤ maxLen) (cs : Array Value) (hc : cs = (xs.map (Value.int .i64)).toArray) (t : TypeId) : SlOf RInt 1 (· < W.heap.size + 1) (W.alloc (.cells cs t)) (.slice (some ⟨W.heap.size, 0, none⟩) n n) xs := by
  subst hc
  exact sl_box (Box.new W (xs.map (Value.int .i64)) t) hn hx (Nat.lt_succ_self _) hl
set_option maxRecDepth 4000 in
set_option maxHeartbeats 3200000 in
theorem awake17_c (w : World) : Calls Tryd.prog 7 #[] w (PPost w (.bool true)) := by
  have H0 : Hid (AwB w ((((((((((w.alloc (.cells #[.int .i64 (-1)] 3)).alloc (.cells #[.int .i64 1, .int .i64 1] 3)).alloc (.cells #[.int .i64 2, .slice (some ⟨w.heap.size, 0, none⟩) 1 1, .slice (some ⟨w.heap.size + 1, 0, none⟩) 2 2] 36)).alloc (.cells #[.int .i64 0, .int .i64 2] 3)).alloc (.cells #[.int .i64 2, .slice (some ⟨w.heap.size, 0, none⟩) 1 1, .slice (some ⟨w.heap.size + 1, 0, none⟩) 2 2, .int .i64 9, .slice (some ⟨w.heap.size + 1 + 1 + 1, 0, none⟩) 2 2, .slice none 0 0, .int .i64 2, .slice (some ⟨w.heap.size, 0, none⟩) 1 1, .slice (some ⟨w.heap.size + 1, 0, none⟩) 2 2] 36)).alloc (.cells #[.slice (some ⟨w.heap.size + 1 + 1 + 1 + 1, 0, none⟩) 3 3, .int .i64 1] 24)).alloc (.cells #[.int .i64 0] 3)).alloc (.cells #[.int .i64 2] 3)).alloc (.cells #[.int .i64 1] 3)).alloc (.cells #[.slice (some ⟨w.heap.size + 1 + 1 + 1 + 1 + 1 + 1, 0, none⟩) 1 1, .slice (some ⟨w.heap.size + 1 + 1 + 1 + 1 + 1 + 1 + 1, 0, none⟩) 1 1, .slice (some ⟨w.heap.size + 1 + 1 + 1 + 1 + 1 + 1 + 1 + 1, 0, none⟩) 1 1] 31))) := AwB.new w
  go_enter Tryd.func7, Tryd.ntmps7
  go_wp2_with fail
  generalize ((((((((((w.alloc (.cells #[.int .i64 (-1)] 3)).alloc (.cells #[.int .i64 1, .int .i64 1] 3)).alloc (.cells #[.int .i64 2, .slice (some ⟨w.heap.size, 0, none⟩) 1 1, .slice (some ⟨w.heap.size + 1, 0, none⟩) 2 2] 36)).alloc (.cells #[.int .i64 0, .int .i64 2] 3)).alloc (.cells #[.int .i64 2, .slice (some ⟨w.heap.size, 0, none⟩) 1 1, .slice (some ⟨w.heap.size + 1, 0, none⟩) 2 2, .int .i64 9, .slice (some ⟨w.heap.size + 1 + 1 + 1, 0, none⟩) 2 2, .slice none 0 0, .int .i64 2, .slice (some ⟨w.heap.size, 0, none⟩) 1 1, .slice (some ⟨w.heap.size + 1, 0, none⟩) 2 2] 36)).alloc (.cells #[.slice (some ⟨w.heap.size + 1 + 1 + 1 + 1, 0, none⟩) 3 3, .int .i64 1] 24)).alloc (.cells #[.int .i64 0] 3)).alloc (.cells #[.int .i64 2] 3)).alloc (.cells #[.int .i64 1] 3)).alloc (.cells #[.slice (some ⟨w.heap.size + 1 + 1 + 1 + 1 + 1 + 1, 0, none⟩) 1 1, .slice (some ⟨w.heap.size + 1 + 1 + 1 + 1 + 1 + 1 + 1, 0, none⟩) 1 1, .slice (some ⟨w.heap.size + 1 + 1 + 1 + 1 + 1 + 1 + 1 + 1, 0, none⟩) 1 1] 31)) = W0 at *
  obtain ⟨G, hG⟩ : ∃ G, G = w.heap.size + 1 + 1 + 1 + 1 := ⟨_, rfl⟩
  obtain ⟨LB, hLB⟩ : ∃ G, G = w.heap.size + 1 + 1 + 1 + 1 + 1 + 1 + 1 + 1 + 1 := ⟨_, rfl⟩
  obtain ⟨GB, hGB⟩ : ∃ G, G = w.heap.size + 1 + 1 + 1 + 1 + 1 := ⟨_, rfl⟩
  unfold AwB at H0
  rw [← hLB, ← hGB, ← hG] at H0 ⊢
  clear hG hLB hGB
  refine (readsG_c W0.heap.size _ _ ndB 1 lB W0 okB H0.out.2.1 H0.out.2.2.1 (Nat.le_refl _)).mono ?_; rintro e w2 ⟨ra, rc, rvs, rfl, hR, hb2⟩
  have hR64 := okB.in64
  rw [rdB] at hR hR64
  have hll := hR.ll hR64
  obtain ⟨b, o, c, x0, y0, hv, hbB, c0, s0⟩ := hll.at (i := 0) (by decide)
  simp only [Value.slice.injEq, true_and] at hv
  obtain ⟨rfl, rfl⟩ := hv
  obtain ⟨b', o', c', x2, y2, hv, _, c2, s2⟩ := hll.at (i := 2) (by decide)
  simp only [Value.slice.injEq, Option.some.injEq, Addr.mk.injEq, and_true, true_and] at hv
  obtain ⟨⟨rfl, rfl⟩, rfl⟩ := hv
  have c0 : w2.cell? ⟨b, o, none⟩ = some (.slice x0 1 y0) := c0
  have c2 : w2.cell? ⟨b, o + 2, none⟩ = some (.slice x2 2 y2) := c2
  have s0 : SlOf RInt 1 (· < w2.heap.size) w2 (.slice x0 1 y0) [-1] := s0
  have s2 : SlOf RInt 1 (· < w2.heap.size) w2 (.slice x2 2 y2) [0, 2] := s2
  have HF : Hid (∀ W, Below w2.heap.size w2 W → W.cell? ⟨b, o, none⟩ = some (.slice x0 1 y0) ∧ W.cell? ⟨b, o + 2, none⟩ = some (.slice x2 2 y2) ∧ SlOf RInt 1 (· < w2.heap.size) W (.slice x0 1 y0) [-1] ∧ SlOf RInt 1 (· < w2.heap.size) W (.slice x2 2 y2) [0, 2] ∧ Box W GB [.slice (some ⟨G, 0, none⟩) 3 3, .int .i64 1] ∧ Gr W0.heap.size W (.slice (some ⟨G, 0, none⟩) 3 3) ndB ∧ LL W0.heap.size W (.slice (some ⟨LB, 0, none⟩) 3 3) lB ∧ Below w.heap.size w W ∧ W0.heap.size ≤ W.heap.size) := fun W hb => by
    have hbw := hb2.trans (hb.mono hb2.size)
    exact ⟨(hb.cell (lt_of_cell c0)).trans c0, (hb.cell (lt_of_cell c2)).trans c2, sl_below s0 hb, sl_below s2 hb, H0.out.1.call hbw, H0.out.2.1.below hbw (Nat.le_refl _), H0.out.2.2.1.below hbw, H0.out.2.2.2.trans (hbw.mono H0.out.2.2.2.size), hbw.size⟩
  rw [show (lB.map (rdS ndB)).length = 3 by simp [lB]]
  clear hR hR64 hll c0 c2 s0 s2 hb2 H0
  have c0 := (HF.out w2 (Below.refl _ _)).1
  go_wp2_with fail
  have hb3 : Below w2.heap.size w2 (w2.alloc (.cells #[.int .i64 (-1)] 3)) := below_alloc w2 _
  have h3 := HF.out _ hb3
  refine (equal_c _ _ [-1] [-1] _ h3.2.2.1 (sl_new1 w2 [-1] 1 rfl (fun z hz => in_small (by simp at hz; omega)) (by decide) _ rfl _)).mono ?_; rintro e w4 ⟨rfl, hb4⟩
  have HB4 : Hid (Below w2.heap.size w2 w4) := hb3.trans (hb4.mono hb3.size)
  clear c0 hb3 hb4 h3
  have c2 := (HF.out w4 HB4.out).2.1
  have hd : decide (([-1] : List Int) = [-1]) = true := by decide
  go_wp2_with fail
  have hb5 : Below w4.heap.size w4 (w4.alloc (.cells #[.int .i64 0, .int .i64 2] 3)) := below_alloc w4 _
  have hb5' : Below w2.heap.size w2 (w4.alloc (.cells #[.int .i64 0, .int .i64 2] 3)) := HB4.out.trans (hb5.mono HB4.out.size)
  refine (equal_c _ _ [0, 2] [0, 2] _ (HF.out _ hb5').2.2.2.1 (sl_new1 w4 [0, 2] 2 rfl (fun z hz => in_small (by simp at hz; omega)) (by decide) _ rfl _)).mono ?_; rintro e w6 ⟨rfl, hb6⟩
  have HB6 : Hid (Below w2.heap.size w2 w6) := hb5'.trans (hb6.mono hb5'.size)
  clear c2 hb5 hb5' hb6
  have h6 := HF.out w6 HB6.out
  have g0 := h6.2.2.2.2.1.cell 0 rfl
  have g1 := h6.2.2.2.2.1.cell 1 rfl
  have hd2 : decide (([0, 2] : List Int) = [0, 2]) = true := by decide
  have hun := until_c W0.heap.size _ _ ndB 1 lB w6 okB h6.2.2.2.2.2.1 h6.2.2.2.2.2.2.1 h6.2.2.2.2.2.2.2.2
  rw [unBB] at hun
  clear h6
  go_wp2_with fail
  refine hun.mono ?_; rintro e w7 ⟨O, hO, rfl, hbx, hb7⟩
  have HB7 : Hid (Below w.heap.size w w7) := (HF.out w6 HB6.out).2.2.2.2.2.2.2.1.trans (hb7.mono (HF.out w6 HB6.out).2.2.2.2.2.2.2.1.size)
  have h1 : SlOf RInt 1 (· < w7.heap.size) w7 (.slice (some ⟨O, 0, none⟩) 3 3) [2, 2, 3] := sl_box hbx rfl (fun z hz => in_small (by simp at hz; omega)) hbx.lt (by decide)
  rw [show ([2, 2, 3] : List Int).length = 3 from rfl]
  clear g0 g1 hun hbx hb7 hO
  go_wp2_with fail
  have hb8 : Below w7.heap.size w7 (w7.alloc (.cells #[.int .i64 2, .int .i64 2, .int .i64 3] 3)) := below_alloc w7 _
  refine (equal_c _ _ [2, 2, 3] [2, 2, 3] _ (sl_below h1 hb8) (sl_new1 w7 [2, 2, 3] 3 rfl (fun z hz => in_small (by simp at hz; omega)) (by decide) _ rfl _)).mono ?_; rintro e w9 ⟨rfl, hb9⟩
  have HE : Hid (Below w.heap.size w w9) := HB7.out.trans ((hb8.trans (hb9.mono hb8.size)).mono HB7.out.size)
  have hd3 : decide (([2, 2, 3] : List Int) = [2, 2, 3]) = true := by decide
  clear hb8 hb9 h1
  go_wp2_with fail
  go_ret
  exact ⟨rfl, HE.out⟩
end Go.Proofs.YtmhfabekmgcjnaaDoor
