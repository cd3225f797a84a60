/- Layer 14: the law's own 'right'; what a right filter is. -/
import Derived.Test.YtfjeohnigikmoaaDoorCp
import Derived.Test.YtfjeohnigikmoaaDoorNr
namespace Go.Proofs.YtfjeohnigikmoaaDoor
open Go.RowKit Go.Bx Go.Od Go.Hp
attribute [local go_sem ↓] Go.wp_at_zero Go.wp_at_succ
set_option linter.unusedVariables false

def rightB (nds : List Nd) (out : Int) : Bool := fewB nds 12 && (chkB nds out == 0)
theorem right14_c (B : Nat) (nv : Value) (nds : List Nd) (out : Int) (w : World) (ht : Tabs w) (hg : Gr B w nv nds) (hB : B ≤ w.heap.size) :
    Calls Tryd.prog 7 #[.agg #[nv, .int .i64 out]] w (PPost w (.bool (rightB nds out))) := by
  have HG : Hid (Gr B w nv nds ∧ Tabs w) := ⟨hg, ht⟩
  obtain ⟨ga, gc, rfl⟩ := hg.isSl
  obtain ⟨f, hf⟩ : ∃ f, f = fewB nds 12 := ⟨_, rfl⟩
  have HF : Hid (f = fewB nds 12) := hf
  clear hg ht hf
  go_enter Tryd.func7, Tryd.ntmps7
  go_wp2_with fail
  have X := Box.new w [.slice ga nds.length gc, .int .i64 out] 24
  have hb1 := below_alloc w (.cells #[.slice ga nds.length gc, .int .i64 out] 24)
  obtain ⟨W1, hW1⟩ : ∃ W, W = w.alloc (.cells #[.slice ga nds.length gc, .int .i64 out] 24) := ⟨_, rfl⟩
  rw [← hW1] at X hb1 ⊢
  clear hW1
  refine (rfew_c B _ nds out 12 W1 (by omega) (HG.out.1.below hb1 hB)).mono ?_; rintro e w2 ⟨rfl, hb2⟩
  have X2 := X.call hb2
  have g0 := X2.cell 0 rfl
  have g1 := X2.cell 1 rfl
  have HB : Hid (Below w.heap.size w w2) := hb1.trans (hb2.mono hb1.size)
  rw [← HF.out]
  clear X hb1 hb2
  cases f with
  | false =>
    have HE : Hid (rightB nds out = false) := by
      have : rightB nds out = false := by unfold rightB; rw [← HF.out]; rfl
      exact this
    go_wp2_with fail
    go_ret
    exact ⟨ret_b HE.out.symm, HB.out⟩
  | true =>
    obtain ⟨h1, h2⟩ := few_of HF.out.symm (by omega)
    have HN : Hid (∀ i, i < nds.length → (nds.getD i Nd.none).ins.length ≤ 1000) := h2
    clear h2
    go_wp2_with fail
    refine (check_c B _ nds out w2 (by omega) HN.out (HG.out.2.below HB.out) (HG.out.1.below HB.out hB) (Nat.le_trans hB HB.out.size)).mono ?_; rintro e w3 ⟨rfl, hb3⟩
    have HB3 : Hid (Below w.heap.size w w3) := HB.out.trans (hb3.mono HB.out.size)
    obtain ⟨c, hc⟩ : ∃ c, c = chkB nds out := ⟨_, rfl⟩
    rw [← hc]
    have HE : Hid (rightB nds out = (c == 0)) := by
      have : rightB nds out = (c == 0) := by unfold rightB; rw [← HF.out, hc]; rfl
      exact this
    clear hb3 g0 g1 X2 hc HN
    go_wp2_with fail
    go_ret
    exact ⟨ret_b HE.out.symm, HB3.out⟩
/-- what a right filter's graph is -/
structure GoodN (nds : List Nd) (out : Int) : Prop where
  few : nds.length ≤ 100
  short : ∀ i, i < nds.length → (nds.getD i Nd.none).ins.length ≤ 1000
  pos : 0 < nds.length
  outs : 0 ≤ out ∧ out < nds.length
  full : ∀ i, i < nds.length → i ∈ ord (insOf nds)
  pa : ∀ i, i < nds.length → PaOk (nds.getD i Nd.none)
  rng : ∀ i, i < nds.length → ∀ x ∈ (nds.getD i Nd.none).ins, -1 ≤ x ∧ x < nds.length
theorem pa_of {nd : Nd} {n : Nat} (h : oneB nd n = 0) : PaOk nd ∧ ∀ x ∈ nd.ins, -1 ≤ x ∧ x < n := by
  unfold oneB at h
  split at h
  · cases h
  rename_i h1
  split at h
  · cases h
  rename_i h2
  split at h
  · cases h
  rename_i h3
  split at h
  · cases h
  rename_i h4
  have hp : (nd.p.length : Int) = parL.getD nd.op.toNat 0 := by
    have : ¬ ((nd.p.length : Int) == parL.getD nd.op.toNat 0) = false := fun e => h2 (.inr (.inr e))
    simpa using this
  have hb : bndB nd.op nd.p = true := by simpa using h4
  have hn : nearB nd.ins 0 nd.ins.length (-1) ((n : Int) - 1) = true := by simpa using h3
  rw [nearB_iff] at hn
  clear h h1 h2 h3 h4
  refine ⟨⟨fun e => ?_, fun e => ?_, fun e => ?_, fun e => ?_⟩, fun x hx => ?_⟩
  · rcases e with e | e
    · rw [e] at hp hb
      have hl : (nd.p.length : Int) = 2 := hp
      unfold bndB at hb
      rw [if_pos rfl, nearB_iff] at hb
      exact ⟨by omega, hb 0 (by omega) (by omega), hb 1 (by omega) (by omega)⟩
    · rw [e] at hp hb
      have hl : (nd.p.length : Int) = 8 := hp
      have hb : (nearB nd.p 0 2 (-1048576) 1048576 && (nearB nd.p 2 4 0 255 && pixB nd.p 4)) = true := hb
      simp only [Bool.and_eq_true, nearB_iff] at hb
      exact ⟨by omega, hb.1 0 (by omega) (by omega), hb.1 1 (by omega) (by omega)⟩
  · have hl : (nd.p.length : Int) = 2 := by rcases e with e | e | e <;> (rw [e] at hp; exact hp)
    have hb : nearB nd.p 0 2 0 255 = true := by rcases e with e | e | e <;> (rw [e] at hb; exact hb)
    rw [nearB_iff] at hb
    exact ⟨by omega, hb 0 (by omega) (by omega), hb 1 (by omega) (by omega)⟩
  · have hl : (nd.p.length : Int) = 4 := by rcases e with e | e <;> (rw [e] at hp; exact hp)
    have hb : nearB nd.p 0 4 (-1048576) 1048576 = true := by
      rcases e with e | e
      · rw [e] at hb; exact hb
      · rw [e] at hb
        have hb : (nearB nd.p 0 4 (-1048576) 1048576 && (decide (nd.p.getD 0 0 < nd.p.getD 2 0) && (decide (nd.p.getD 1 0 < nd.p.getD 3 0) && (decide (nd.p.getD 2 0 - nd.p.getD 0 0 ≤ 4096) && decide (nd.p.getD 3 0 - nd.p.getD 1 0 ≤ 4096))))) = true := hb
        rw [Bool.and_eq_true] at hb
        exact hb.1
    rw [nearB_iff] at hb
    refine ⟨by omega, ?_, ?_, ?_, ?_⟩
    · have := hb 0 (by omega) (by omega); unfold Pl pbox; dsimp only; omega
    · have := hb 1 (by omega) (by omega); unfold Pl pbox; dsimp only; omega
    · have := hb 2 (by omega) (by omega); unfold Pl pbox; dsimp only; omega
    · have := hb 3 (by omega) (by omega); unfold Pl pbox; dsimp only; omega
  · rw [e] at hp hb
    have hl : (nd.p.length : Int) = 8 := hp
    have hb : (nearB nd.p 0 2 (-1048576) 1048576 && (nearB nd.p 2 4 0 255 && pixB nd.p 4)) = true := hb
    simp only [Bool.and_eq_true, nearB_iff] at hb
    exact ⟨by omega, hb.2.1 2 (by omega) (by omega), hb.2.1 3 (by omega) (by omega)⟩
  · obtain ⟨j, hj, rfl⟩ := List.mem_iff_getElem.1 hx
    have := hn j (by omega) hj
    rw [List.getD_eq_getElem?_getD, List.getElem?_eq_getElem hj, Option.getD_some] at this
    omega
theorem goodN_of {nds : List Nd} {out : Int} (h : rightB nds out = true) : GoodN nds out := by
  unfold rightB at h
  rw [Bool.and_eq_true] at h
  obtain ⟨h1, h2⟩ := few_of h.1 (by omega)
  have hc := eq_of_beq h.2
  unfold chkB at hc
  by_cases c1 : nds.length < 1 ∨ 256 < nds.length
  · rw [if_pos c1] at hc; omega
  · rw [if_neg c1] at hc
    by_cases c2 : badB nds nds.length ≠ 0
    · rw [if_pos c2] at hc; exact absurd hc c2
    · rw [if_neg c2] at hc
      have hbad : ∀ q, q < nds.length → oneB (nds.getD q Nd.none) nds.length = 0 := (badB_iff _ _).1 (by simpa using c2)
      by_cases c3 : out < 0 ∨ (nds.length : Int) ≤ out
      · rw [if_pos c3] at hc; omega
      · rw [if_neg c3] at hc
        by_cases c4 : (ord (insOf nds)).length < nds.length
        · rw [if_pos c4] at hc; omega
        · refine ⟨h1, h2, by omega, by omega, fun i hi => ?_, fun i hi => (pa_of (hbad i hi)).1, fun i hi => (pa_of (hbad i hi)).2⟩
          have h5 := ord_len (insOf nds)
          rw [insOf_len] at h5
          exact (ord_full (insOf nds)).1 (by rw [insOf_len]; omega) i (by rw [insOf_len]; exact hi)
end Go.Proofs.YtfjeohnigikmoaaDoor
