/- Layer 12: the document's Check. -/
import Derived.Test.YtmhfabekmgcjnaaDoorCo
namespace Go.Proofs.YtmhfabekmgcjnaaDoor
open Go.RowKit Go.Bx Go.Od Go.Hp
attribute [local go_sem ↓] Go.wp_at_zero Go.wp_at_succ
set_option linter.unusedVariables false

def badB : List Nd → Nat → Int
  | [], _ => 0
  | x :: xs, n => if oneB x n = 0 then badB xs n else oneB x n
theorem badB_zero : ∀ (nds : List Nd) (n : Nat), (∀ q, q < nds.length → oneB (nds.getD q Nd.none) n = 0) → badB nds n = 0
  | [], _, _ => rfl
  | x :: xs, n, h => by
    have h0 : oneB x n = 0 := h 0 (by simp)
    unfold badB
    rw [if_pos h0]
    exact badB_zero xs n fun q hq => by have := h (q + 1) (by simpa using hq); simpa using this
theorem badB_at : ∀ (nds : List Nd) (n j : Nat), j < nds.length → (∀ q, q < j → oneB (nds.getD q Nd.none) n = 0) → oneB (nds.getD j Nd.none) n ≠ 0 → badB nds n = oneB (nds.getD j Nd.none) n
  | [], _, _, hj, _, _ => by simp at hj
  | x :: xs, n, 0, _, _, h => by
    have h0 : oneB x n ≠ 0 := h
    unfold badB
    rw [if_neg h0]
    rfl
  | x :: xs, n, j + 1, hj, h, hne => by
    have h0 : oneB x n = 0 := h 0 (by omega)
    unfold badB
    rw [if_pos h0]
    have := badB_at xs n j (by simpa using hj) (fun q hq => by have := h (q + 1) (by omega); simpa using this) (by simpa using hne)
    simpa using this
theorem badB_iff (nds : List Nd) (n : Nat) : badB nds n = 0 ↔ ∀ q, q < nds.length → oneB (nds.getD q Nd.none) n = 0 := by
  refine ⟨?_, badB_zero nds n⟩
  induction nds with
  | nil => intro _ q hq; simp at hq
  | cons x xs ih =>
    intro h q hq
    unfold badB at h
    by_cases h0 : oneB x n = 0
    · rw [if_pos h0] at h
      cases q with
      | zero => exact h0
      | succ q => simpa using ih h q (by simpa using hq)
    · rw [if_neg h0] at h
      exact absurd h h0
def chkB (nds : List Nd) (out : Int) : Int :=
  if nds.length < 1 ∨ 256 < nds.length then 3
  else if badB nds nds.length ≠ 0 then badB nds nds.length
  else if out < 0 ∨ (nds.length : Int) ≤ out then 8
  else if (ord (insOf nds)).length < nds.length then 6 else 0
set_option maxHeartbeats 3200000 in
theorem check_c (B : Nat) (nv : Value) (nds : List Nd) (out : Int) (w : World) (hm : nds.length ≤ 999) (hl : ∀ i, i < nds.length → (nds.getD i Nd.none).ins.length ≤ 1000) (ht : Tabs w) (hg : Gr B w nv nds) (hB : B ≤ w.heap.size) :
    Calls Tryd.prog 15 #[.agg #[nv, .int .i64 out]] w (PPost w (.int .i64 (chkB nds out))) := by
  obtain ⟨ga, gc, rfl⟩ := hg.isSl
  have hgl := hg.len_le
  have X := Box.new w [.slice ga nds.length gc, .int .i64 out] 24
  have B1 : Below w.heap.size w (w.alloc (.cells #[.slice ga nds.length gc, .int .i64 out] 24)) := below_alloc _ _
  obtain ⟨W1, hW1⟩ : ∃ W, W = w.alloc (.cells #[.slice ga nds.length gc, .int .i64 out] 24) := ⟨_, rfl⟩
  rw [← hW1] at X B1
  have b11 : Below W1.heap.size W1 W1 := Below.refl _ _
  have HX : Hid (Box W1 w.heap.size [.slice ga nds.length gc, .int .i64 out]) := X
  have HS : Hid (∀ W, Below W1.heap.size W1 W → Below w.heap.size w W) := fun W hb => B1.trans (hb.mono B1.size)
  have HG : Hid (∀ W, Below W1.heap.size W1 W → Gr B W (.slice ga nds.length gc) nds ∧ B ≤ W.heap.size ∧ Tabs W) := fun W hb => ⟨hg.below (HS.out W hb) hB, Nat.le_trans hB (HS.out W hb).size, ht.below (HS.out W hb)⟩
  have x0 := X.cell 0 rfl
  have x1 := X.cell 1 rfl
  have HL : Hid (nds.length ≤ 999 ∧ ∀ i, i < nds.length → (nds.getD i Nd.none).ins.length ≤ 1000) := ⟨hm, hl⟩
  have HO : Hid (∀ W, Below W1.heap.size W1 W → Calls Tryd.prog 25 #[] W fun _ _ => True) ∨ True := .inr trivial
  clear HO X B1 hg ht hl
  by_cases c1 : nds.length < 1
  · have c1' : (nds.length : Int) < 1 := by omega
    have HE : Hid (chkB nds out = 3) := if_pos (.inl c1)
    clear c1
    go_enter Tryd.func15, Tryd.ntmps15
    go_wp2_with fail
    rw [← hW1]
    clear hW1
    go_wp2_with fail
    go_ret
    exact ⟨ret_i HE.out.symm, HS.out _ (by assumption)⟩
  by_cases c2 : 256 < nds.length
  · have c2' : 256 < (nds.length : Int) := by omega
    have c1' : ¬ (nds.length : Int) < 1 := by omega
    have HE : Hid (chkB nds out = 3) := if_pos (.inr c2)
    clear c1 c2
    go_enter Tryd.func15, Tryd.ntmps15
    go_wp2_with fail
    rw [← hW1]
    clear hW1
    go_wp2_with fail
    go_ret
    exact ⟨ret_i HE.out.symm, HS.out _ (by assumption)⟩
  have c1' : ¬ (nds.length : Int) < 1 := by omega
  have c2' : ¬ 256 < (nds.length : Int) := by omega
  have e0 : chkB nds out = if badB nds nds.length ≠ 0 then badB nds nds.length else if out < 0 ∨ (nds.length : Int) ≤ out then 8 else if (ord (insOf nds)).length < nds.length then 6 else 0 := if_neg (by omega)
  have HE0 : Hid (chkB nds out = if badB nds nds.length ≠ 0 then badB nds nds.length else if out < 0 ∨ (nds.length : Int) ≤ out then 8 else if (ord (insOf nds)).length < nds.length then 6 else 0) := e0
  clear e0 c1 c2
  go_enter Tryd.func15, Tryd.ntmps15
  go_wp2_with fail
  rw [← hW1]
  clear hW1
  go_wp2_with fail
  go_loopw [3] (fun jv wr => ∃ j : Nat, j ≤ nds.length ∧ jv = .int .i64 j ∧ Below W1.heap.size W1 wr ∧ Hid (∀ q, q < j → oneB (nds.getD q Nd.none) nds.length = 0)) (fun jv _ => nds.length - (intOf jv).toNat)
  case atStart => exact ⟨0, by omega, rfl, b11, fun q hq => by omega⟩
  case round =>
    obtain ⟨j, hj, rfl, br, hall⟩ := hrel
    clear b11
    have y0 := (HX.out.call br).cell 0 rfl
    have y1 := (HX.out.call br).cell 1 rfl
    by_cases hjl : j < nds.length
    · obtain ⟨b, o, cap, ia, ic, pa, pc, hv, hbB, hcap, hcm, k0, k1, k2, s1, s2⟩ := (HG.out _ br).1.node hjl
      simp only [Value.slice.injEq] at hv
      obtain ⟨rfl, _, rfl⟩ := hv
      have hj0 : (0 : Int) ≤ (j : Int) := by omega
      have hj1 : (j : Int) < (nds.length : Int) := by omega
      obtain ⟨op, hop⟩ : ∃ z, z = (nds.getD j Nd.none).op := ⟨_, rfl⟩
      obtain ⟨il, hil⟩ : ∃ z, z = (nds.getD j Nd.none).ins.length := ⟨_, rfl⟩
      obtain ⟨pl, hpl⟩ : ∃ z, z = (nds.getD j Nd.none).p.length := ⟨_, rfl⟩
      obtain ⟨c, hc⟩ : ∃ z, z = oneB (nds.getD j Nd.none) nds.length := ⟨_, rfl⟩
      have HO : Hid (∀ s : Kept wr.heap.size wr, Calls Tryd.prog 25 #[.agg #[.int .i64 op, .slice ia il ic, .slice pa pl pc], .int .i64 nds.length] s.w (PPost s.w (.int .i64 c))) := fun s => by
        have hlt : ∀ b', b' < B → b' < s.w.heap.size := fun b' hb' => by
          have h1 := (HG.out _ br).2.1
          have h2 := s.below.size
          omega
        have hsm : Same (· < B) wr s.w := fun b' hb' => s.below.block b' (by have h1 := (HG.out _ br).2.1; have : b' < B := hb'; omega)
        have h := one_c (F := (· < B)) op (.slice ia (nds.getD j Nd.none).ins.length ic) (.slice pa (nds.getD j Nd.none).p.length pc) (nds.getD j Nd.none).ins (nds.getD j Nd.none).p nds.length s.w (by have := HL.out.1; omega) ((HG.out _ br).2.2.below s.below) hlt (s1.same RInt.ok hsm) (s2.same RInt.ok hsm)
        have e : oneB ⟨op, (nds.getD j Nd.none).ins, (nds.getD j Nd.none).p⟩ nds.length = c := by rw [hc, hop]
        rw [e, ← hil, ← hpl] at h
        exact h
      rw [← hop] at k0
      rw [← hil] at k1
      rw [← hpl] at k2
      have HC : Hid (c = oneB (nds.getD j Nd.none) nds.length) := hc
      have f0 := fun s : Kept wr.heap.size wr => s.at y0
      have f1 := fun s : Kept wr.heap.size wr => s.at y1
      have f2 := fun s : Kept wr.heap.size wr => s.at k0
      have f3 := fun s : Kept wr.heap.size wr => s.at k1
      have f4 := fun s : Kept wr.heap.size wr => s.at k2
      unfold maxLen at hcm
      clear s1 s2 hop hil hpl hc k0 k1 k2
      go_wp2_with fail
      refine wp_region_kept wr.heap.size (by kernel_rfl) (by kernel_rfl) ?_
      repeat (go_big_quiet_step (first
        | (go_at_call 25; with_reducible exact Calls.kept _ (Nat.le_refl _) (HO.out _))))
      refine wpQuiet_nil ?_
      rintro _ ⟨s, rfl⟩
      have HB : Hid (Below W1.heap.size W1 s.w) := br.trans (s.below.mono br.size)
      by_cases hc0 : c = 0
      · have c0 : (c == 0) = true := by simp [hc0]
        have c0' : (c != 0) = false := by simp [hc0]
        have HA : Hid (∀ q, q < j + 1 → oneB (nds.getD q Nd.none) nds.length = 0) := fun q hq => by
          by_cases e : q = j
          · rw [e, ← HC.out]; exact hc0
          · exact hall.out q (by omega)
        clear hc0
        go_wp2_with fail
        go_roundw
        case rel => exact ⟨j + 1, by omega, by go_num, HB.out, HA⟩
        case measure => simp [intOf]; omega
      · have c0 : (c == 0) = false := by simp [hc0]
        have c0' : (c != 0) = true := by simp [hc0]
        have HE : Hid (chkB nds out = c) := by
          have e : badB nds nds.length = c := by
            have h := badB_at nds nds.length j hjl hall.out (by rw [← HC.out]; exact hc0)
            rw [h, ← HC.out]
          have h := HE0.out
          rw [e, if_pos hc0] at h
          exact h
        clear hc0
        go_wp2_with fail
        go_ret
        exact ⟨ret_i HE.out.symm, HS.out _ HB.out⟩
    · have ej : j = nds.length := by omega
      subst ej
      have e1 : chkB nds out = if out < 0 ∨ (nds.length : Int) ≤ out then 8 else if (ord (insOf nds)).length < nds.length then 6 else 0 := by
        have h := HE0.out
        rw [badB_zero nds nds.length hall.out, if_neg (by simp)] at h
        exact h
      by_cases d1 : out < 0
      · have HE : Hid (chkB nds out = 8) := by rw [e1]; exact if_pos (.inl d1)
        clear e1
        go_wp2_with fail
        go_ret
        exact ⟨ret_i HE.out.symm, HS.out _ br⟩
      · by_cases d2 : (nds.length : Int) ≤ out
        · have HE : Hid (chkB nds out = 8) := by rw [e1]; exact if_pos (.inr d2)
          clear e1
          go_wp2_with fail
          go_ret
          exact ⟨ret_i HE.out.symm, HS.out _ br⟩
        · have HR : Hid (∀ W, Below W1.heap.size W1 W → Calls Tryd.prog 26 #[.agg #[.slice ga nds.length gc, .int .i64 out]] W fun e w' => e = .returned (.bool (decide ((ord (insOf nds)).length < nds.length))) ∧ Below W1.heap.size W1 w') := fun W hb =>
            up hb (rround_c B _ nds out W HL.out.1 HL.out.2 (HG.out W hb).1 (HG.out W hb).2.1) (Nat.le_refl _)
          by_cases d3 : (ord (insOf nds)).length < nds.length
          · have HE : Hid (chkB nds out = 6) := by rw [e1, if_neg (by omega)]; exact if_pos d3
            rw [decide_eq_true d3] at HR
            clear e1 d3
            go_wp2_with (first
              | (go_at_call 26; with_reducible refine (HR.out _ (by assumption)).mono ?_; rintro e w6 ⟨rfl, b6⟩))
            go_ret
            exact ⟨ret_i HE.out.symm, HS.out _ (by assumption)⟩
          · have HE : Hid (chkB nds out = 0) := by rw [e1, if_neg (by omega)]; exact if_neg d3
            rw [decide_eq_false d3] at HR
            clear e1 d3
            go_wp2_with (first
              | (go_at_call 26; with_reducible refine (HR.out _ (by assumption)).mono ?_; rintro e w6 ⟨rfl, b6⟩))
            go_ret
            exact ⟨ret_i HE.out.symm, HS.out _ (by assumption)⟩
end Go.Proofs.YtmhfabekmgcjnaaDoor
