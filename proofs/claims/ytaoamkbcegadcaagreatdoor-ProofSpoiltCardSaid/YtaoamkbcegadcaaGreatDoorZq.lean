/- Texts joined: XZq. -/
import Derived.Test.YtaoamkbcegadcaaGreatDoorZp
import Derived.Test.YtaoamkbcegadcaaGreatDoorYs
set_option maxRecDepth 4000
/- Layer 20: the law's own 'awake'. (Printed by mk_zq.py.) -/
namespace Go.Proofs.YtaoamkbcegadcaaGreatDoor
open Go.RowKit Go.Bx Go.Od Go.Hp
attribute [local go_sem ↓] Go.wp_at_zero Go.wp_at_succ
set_option linter.unusedVariables false

def AQ (w : World) (n z5 z6 z7 z8 : Nat) (W : World) : Prop := Gr n W (.slice (some ⟨z5,0,none⟩) 2 2) (ndP 2 [1,1]) ∧ n ≤ W.heap.size ∧ Box W z6 [.slice (some ⟨z5,0,none⟩) 2 2,.int .i64 1] ∧ Box W z7 (cl4 ⟨0,0,4,4⟩) ∧ Box W z8 [.bool false,.bool true,.bool true,.bool false,.int .i64 0] ∧ Below w.heap.size w W
theorem AQ.call {w W W' : World} {n z5 z6 z7 z8 : Nat} (h : AQ w n z5 z6 z7 z8 W) (hb : Below W.heap.size W W') : AQ w n z5 z6 z7 z8 W' := by
  obtain ⟨h1,h2,h3,h4,h5,h6⟩ := h
  exact ⟨h1.below hb h2,Nat.le_trans h2 hb.size,h3.call hb,h4.call hb,h5.call hb,h6.trans (hb.mono h6.size)⟩
theorem awQ (w : World) : AQ w (w.heap.size + 1 + 1 + 1 + 1 + 1 + 1 + 1 + 1 + 1) (w.heap.size + 1 + 1 + 1 + 1 + 1) (w.heap.size + 1 + 1 + 1 + 1 + 1 + 1) (w.heap.size + 1 + 1 + 1 + 1 + 1 + 1 + 1) (w.heap.size + 1 + 1 + 1 + 1 + 1 + 1 + 1 + 1) (((((((((w.alloc (.cells #[.int .i64 (-1)] 3)).alloc (.cells #[.int .i64 1,.int .i64 1] 3)).alloc (.cells #[.int .i64 2,.slice (some ⟨w.heap.size,0,none⟩) 1 1,.slice (some ⟨w.heap.size + 1,0,none⟩) 2 2] 44)).alloc (.cells #[.int .i64 0] 3)).alloc (.cells #[.int .i64 1,.int .i64 1] 3)).alloc (.cells #[.int .i64 2,.slice (some ⟨w.heap.size,0,none⟩) 1 1,.slice (some ⟨w.heap.size + 1,0,none⟩) 2 2,.int .i64 2,.slice (some ⟨w.heap.size + 1 + 1 + 1,0,none⟩) 1 1,.slice (some ⟨w.heap.size + 1 + 1 + 1 + 1,0,none⟩) 2 2] 44)).alloc (.cells #[.slice (some ⟨w.heap.size + 1 + 1 + 1 + 1 + 1,0,none⟩) 2 2,.int .i64 1] 24)).alloc (.cells #[.int .i64 0,.int .i64 0,.int .i64 4,.int .i64 4] 26)).alloc (.cells #[.bool false,.bool true,.bool true,.bool false,.int .i64 0] 28)) := by
  obtain ⟨h0,h1,h2,h3,h4,h5,h6,h7⟩ := awP w
  have hs : (((((((w.alloc (.cells #[.int .i64 (-1)] 3)).alloc (.cells #[.int .i64 1,.int .i64 1] 3)).alloc (.cells #[.int .i64 2,.slice (some ⟨w.heap.size,0,none⟩) 1 1,.slice (some ⟨w.heap.size + 1,0,none⟩) 2 2] 44)).alloc (.cells #[.int .i64 0] 3)).alloc (.cells #[.int .i64 1,.int .i64 1] 3)).alloc (.cells #[.int .i64 2,.slice (some ⟨w.heap.size,0,none⟩) 1 1,.slice (some ⟨w.heap.size + 1,0,none⟩) 2 2,.int .i64 2,.slice (some ⟨w.heap.size + 1 + 1 + 1,0,none⟩) 1 1,.slice (some ⟨w.heap.size + 1 + 1 + 1 + 1,0,none⟩) 2 2] 44)).alloc (.cells #[.slice (some ⟨w.heap.size + 1 + 1 + 1 + 1 + 1,0,none⟩) 2 2,.int .i64 1] 24)).heap.size = w.heap.size + 1 + 1 + 1 + 1 + 1 + 1 + 1 := by simp only [size_alloc]
  have b8 : Below (((((((w.alloc (.cells #[.int .i64 (-1)] 3)).alloc (.cells #[.int .i64 1,.int .i64 1] 3)).alloc (.cells #[.int .i64 2,.slice (some ⟨w.heap.size,0,none⟩) 1 1,.slice (some ⟨w.heap.size + 1,0,none⟩) 2 2] 44)).alloc (.cells #[.int .i64 0] 3)).alloc (.cells #[.int .i64 1,.int .i64 1] 3)).alloc (.cells #[.int .i64 2,.slice (some ⟨w.heap.size,0,none⟩) 1 1,.slice (some ⟨w.heap.size + 1,0,none⟩) 2 2,.int .i64 2,.slice (some ⟨w.heap.size + 1 + 1 + 1,0,none⟩) 1 1,.slice (some ⟨w.heap.size + 1 + 1 + 1 + 1,0,none⟩) 2 2] 44)).alloc (.cells #[.slice (some ⟨w.heap.size + 1 + 1 + 1 + 1 + 1,0,none⟩) 2 2,.int .i64 1] 24)).heap.size (((((((w.alloc (.cells #[.int .i64 (-1)] 3)).alloc (.cells #[.int .i64 1,.int .i64 1] 3)).alloc (.cells #[.int .i64 2,.slice (some ⟨w.heap.size,0,none⟩) 1 1,.slice (some ⟨w.heap.size + 1,0,none⟩) 2 2] 44)).alloc (.cells #[.int .i64 0] 3)).alloc (.cells #[.int .i64 1,.int .i64 1] 3)).alloc (.cells #[.int .i64 2,.slice (some ⟨w.heap.size,0,none⟩) 1 1,.slice (some ⟨w.heap.size + 1,0,none⟩) 2 2,.int .i64 2,.slice (some ⟨w.heap.size + 1 + 1 + 1,0,none⟩) 1 1,.slice (some ⟨w.heap.size + 1 + 1 + 1 + 1,0,none⟩) 2 2] 44)).alloc (.cells #[.slice (some ⟨w.heap.size + 1 + 1 + 1 + 1 + 1,0,none⟩) 2 2,.int .i64 1] 24)) (((((((((w.alloc (.cells #[.int .i64 (-1)] 3)).alloc (.cells #[.int .i64 1,.int .i64 1] 3)).alloc (.cells #[.int .i64 2,.slice (some ⟨w.heap.size,0,none⟩) 1 1,.slice (some ⟨w.heap.size + 1,0,none⟩) 2 2] 44)).alloc (.cells #[.int .i64 0] 3)).alloc (.cells #[.int .i64 1,.int .i64 1] 3)).alloc (.cells #[.int .i64 2,.slice (some ⟨w.heap.size,0,none⟩) 1 1,.slice (some ⟨w.heap.size + 1,0,none⟩) 2 2,.int .i64 2,.slice (some ⟨w.heap.size + 1 + 1 + 1,0,none⟩) 1 1,.slice (some ⟨w.heap.size + 1 + 1 + 1 + 1,0,none⟩) 2 2] 44)).alloc (.cells #[.slice (some ⟨w.heap.size + 1 + 1 + 1 + 1 + 1,0,none⟩) 2 2,.int .i64 1] 24)).alloc (.cells #[.int .i64 0,.int .i64 0,.int .i64 4,.int .i64 4] 26)).alloc (.cells #[.bool false,.bool true,.bool true,.bool false,.int .i64 0] 28)) := (below_new _ _).alloc (below_new _ _).size _
  have r0 : Box (((((((((w.alloc (.cells #[.int .i64 (-1)] 3)).alloc (.cells #[.int .i64 1,.int .i64 1] 3)).alloc (.cells #[.int .i64 2,.slice (some ⟨w.heap.size,0,none⟩) 1 1,.slice (some ⟨w.heap.size + 1,0,none⟩) 2 2] 44)).alloc (.cells #[.int .i64 0] 3)).alloc (.cells #[.int .i64 1,.int .i64 1] 3)).alloc (.cells #[.int .i64 2,.slice (some ⟨w.heap.size,0,none⟩) 1 1,.slice (some ⟨w.heap.size + 1,0,none⟩) 2 2,.int .i64 2,.slice (some ⟨w.heap.size + 1 + 1 + 1,0,none⟩) 1 1,.slice (some ⟨w.heap.size + 1 + 1 + 1 + 1,0,none⟩) 2 2] 44)).alloc (.cells #[.slice (some ⟨w.heap.size + 1 + 1 + 1 + 1 + 1,0,none⟩) 2 2,.int .i64 1] 24)).alloc (.cells #[.int .i64 0,.int .i64 0,.int .i64 4,.int .i64 4] 26)).alloc (.cells #[.bool false,.bool true,.bool true,.bool false,.int .i64 0] 28)) (w.heap.size + 1 + 1 + 1 + 1 + 1 + 1 + 1) (cl4 ⟨0,0,4,4⟩) := by
    have h := (Box.new (((((((w.alloc (.cells #[.int .i64 (-1)] 3)).alloc (.cells #[.int .i64 1,.int .i64 1] 3)).alloc (.cells #[.int .i64 2,.slice (some ⟨w.heap.size,0,none⟩) 1 1,.slice (some ⟨w.heap.size + 1,0,none⟩) 2 2] 44)).alloc (.cells #[.int .i64 0] 3)).alloc (.cells #[.int .i64 1,.int .i64 1] 3)).alloc (.cells #[.int .i64 2,.slice (some ⟨w.heap.size,0,none⟩) 1 1,.slice (some ⟨w.heap.size + 1,0,none⟩) 2 2,.int .i64 2,.slice (some ⟨w.heap.size + 1 + 1 + 1,0,none⟩) 1 1,.slice (some ⟨w.heap.size + 1 + 1 + 1 + 1,0,none⟩) 2 2] 44)).alloc (.cells #[.slice (some ⟨w.heap.size + 1 + 1 + 1 + 1 + 1,0,none⟩) 2 2,.int .i64 1] 24)) (cl4 ⟨0,0,4,4⟩) 26).alloc (.cells #[.bool false,.bool true,.bool true,.bool false,.int .i64 0] 28)
    rw [hs] at h
    exact h
  have r1 : Box (((((((((w.alloc (.cells #[.int .i64 (-1)] 3)).alloc (.cells #[.int .i64 1,.int .i64 1] 3)).alloc (.cells #[.int .i64 2,.slice (some ⟨w.heap.size,0,none⟩) 1 1,.slice (some ⟨w.heap.size + 1,0,none⟩) 2 2] 44)).alloc (.cells #[.int .i64 0] 3)).alloc (.cells #[.int .i64 1,.int .i64 1] 3)).alloc (.cells #[.int .i64 2,.slice (some ⟨w.heap.size,0,none⟩) 1 1,.slice (some ⟨w.heap.size + 1,0,none⟩) 2 2,.int .i64 2,.slice (some ⟨w.heap.size + 1 + 1 + 1,0,none⟩) 1 1,.slice (some ⟨w.heap.size + 1 + 1 + 1 + 1,0,none⟩) 2 2] 44)).alloc (.cells #[.slice (some ⟨w.heap.size + 1 + 1 + 1 + 1 + 1,0,none⟩) 2 2,.int .i64 1] 24)).alloc (.cells #[.int .i64 0,.int .i64 0,.int .i64 4,.int .i64 4] 26)).alloc (.cells #[.bool false,.bool true,.bool true,.bool false,.int .i64 0] 28)) (w.heap.size + 1 + 1 + 1 + 1 + 1 + 1 + 1 + 1) [.bool false,.bool true,.bool true,.bool false,.int .i64 0] := by
    have h := Box.new ((((((((w.alloc (.cells #[.int .i64 (-1)] 3)).alloc (.cells #[.int .i64 1,.int .i64 1] 3)).alloc (.cells #[.int .i64 2,.slice (some ⟨w.heap.size,0,none⟩) 1 1,.slice (some ⟨w.heap.size + 1,0,none⟩) 2 2] 44)).alloc (.cells #[.int .i64 0] 3)).alloc (.cells #[.int .i64 1,.int .i64 1] 3)).alloc (.cells #[.int .i64 2,.slice (some ⟨w.heap.size,0,none⟩) 1 1,.slice (some ⟨w.heap.size + 1,0,none⟩) 2 2,.int .i64 2,.slice (some ⟨w.heap.size + 1 + 1 + 1,0,none⟩) 1 1,.slice (some ⟨w.heap.size + 1 + 1 + 1 + 1,0,none⟩) 2 2] 44)).alloc (.cells #[.slice (some ⟨w.heap.size + 1 + 1 + 1 + 1 + 1,0,none⟩) 2 2,.int .i64 1] 24)).alloc (.cells #[.int .i64 0,.int .i64 0,.int .i64 4,.int .i64 4] 26)) [.bool false,.bool true,.bool true,.bool false,.int .i64 0] 28
    rw [size_alloc,hs] at h
    exact h
  have hs9 : (((((((((w.alloc (.cells #[.int .i64 (-1)] 3)).alloc (.cells #[.int .i64 1,.int .i64 1] 3)).alloc (.cells #[.int .i64 2,.slice (some ⟨w.heap.size,0,none⟩) 1 1,.slice (some ⟨w.heap.size + 1,0,none⟩) 2 2] 44)).alloc (.cells #[.int .i64 0] 3)).alloc (.cells #[.int .i64 1,.int .i64 1] 3)).alloc (.cells #[.int .i64 2,.slice (some ⟨w.heap.size,0,none⟩) 1 1,.slice (some ⟨w.heap.size + 1,0,none⟩) 2 2,.int .i64 2,.slice (some ⟨w.heap.size + 1 + 1 + 1,0,none⟩) 1 1,.slice (some ⟨w.heap.size + 1 + 1 + 1 + 1,0,none⟩) 2 2] 44)).alloc (.cells #[.slice (some ⟨w.heap.size + 1 + 1 + 1 + 1 + 1,0,none⟩) 2 2,.int .i64 1] 24)).alloc (.cells #[.int .i64 0,.int .i64 0,.int .i64 4,.int .i64 4] 26)).alloc (.cells #[.bool false,.bool true,.bool true,.bool false,.int .i64 0] 28)).heap.size = w.heap.size + 1 + 1 + 1 + 1 + 1 + 1 + 1 + 1 + 1 := by simp only [size_alloc]
  have hb9 := h7.trans (b8.mono h7.size)
  refine ⟨?_,Nat.le_of_eq hs9.symm,h6.call b8,r0,r1,hb9⟩
  rw [← hs9]
  exact (grP h5 h0 h1 h3 h4 rfl (fun z hz => in_small (by simp at hz; omega)) (by decide) (in_small (by decide)) (Nat.le_refl _)).below b8 (Nat.le_refl _) |>.mono b8.size
theorem mk20 : ∀ y ∈ ps20,MkOk (ndP 2 [1,1]) 2 y := by
  have h := plS_mk okP1 (c := c20)
  rw [plP3.2.1,plP3.1] at h
  exact h
def Mk20 (w : World) (e : Ending) (w' : World) : Prop := ∃ pa pc,e = .returned (.agg #[.slice pa 2 pc,.int .i64 (-2),.int .i64 (-2),.int .i64 6,.int .i64 6,.int .i64 2,.int .i64 80]) ∧ Gp w'.heap.size w' (.slice pa 2 pc) ps20 ∧ 2 ≤ pc ∧ pc ≤ maxLen ∧ Below w.heap.size w w'
theorem mk20_c (n : Nat) (nv : Value) (w : World) (hg : Gr n w nv (ndP 2 [1,1])) (hB : n ≤ w.heap.size) : Calls Tryz.prog 8 #[.agg #[nv,.int .i64 1],.agg #[.int .i64 0,.int .i64 0,.int .i64 4,.int .i64 4],.agg #[.bool false,.bool true,.bool true,.bool false,.int .i64 0]] w (Mk20 w) := by
  refine (make_c n nv (ndP 2 [1,1]) 1 ⟨0,0,4,4⟩ c20 w okP1 hg hB).mono fun e w1 h => ?_
  obtain ⟨pl,pv,he,hpl,hpr,hb1⟩ := h
  rw [plP3.2.2.2,plP3.1,plP3.2.2.1] at he
  rw [plP3.2.1] at hpl
  have hgp : Gp w1.heap.size w1 pv ps20 := by rw [← hpl]; exact hpr.gp (by rw [hpl]; exact fun y hy => (mk20 y hy).ok)
  obtain ⟨pa,pc,rfl⟩ := hgp.isSl
  have hpc : 2 ≤ pc ∧ pc ≤ maxLen := by
    obtain ⟨_,cc,hv,h1,h2,_⟩ := hgp
    simp only [Value.slice.injEq] at hv
    obtain ⟨_,_,rfl⟩ := hv
    exact ⟨h1,h2⟩
  exact ⟨pa,pc,he,hgp,hpc.1,hpc.2,hb1⟩
set_option maxRecDepth 10000 in
set_option maxHeartbeats 6400000 in
theorem awake20_c (w : World) : Calls Tryz.prog 6 #[] w (PPost w (.bool true)) := by
  have HA : Hid _ := awQ w
  go_enter Tryz.func6,Tryz.ntmps6
  go_wp2_with fail
  have hmk := mk20_c (w.heap.size + 1 + 1 + 1 + 1 + 1 + 1 + 1 + 1 + 1) _ (((((((((w.alloc (.cells #[.int .i64 (-1)] 3)).alloc (.cells #[.int .i64 1,.int .i64 1] 3)).alloc (.cells #[.int .i64 2,.slice (some ⟨w.heap.size,0,none⟩) 1 1,.slice (some ⟨w.heap.size + 1,0,none⟩) 2 2] 44)).alloc (.cells #[.int .i64 0] 3)).alloc (.cells #[.int .i64 1,.int .i64 1] 3)).alloc (.cells #[.int .i64 2,.slice (some ⟨w.heap.size,0,none⟩) 1 1,.slice (some ⟨w.heap.size + 1,0,none⟩) 2 2,.int .i64 2,.slice (some ⟨w.heap.size + 1 + 1 + 1,0,none⟩) 1 1,.slice (some ⟨w.heap.size + 1 + 1 + 1 + 1,0,none⟩) 2 2] 44)).alloc (.cells #[.slice (some ⟨w.heap.size + 1 + 1 + 1 + 1 + 1,0,none⟩) 2 2,.int .i64 1] 24)).alloc (.cells #[.int .i64 0,.int .i64 0,.int .i64 4,.int .i64 4] 26)).alloc (.cells #[.bool false,.bool true,.bool true,.bool false,.int .i64 0] 28)) HA.out.1 HA.out.2.1
  generalize (((((((((w.alloc (.cells #[.int .i64 (-1)] 3)).alloc (.cells #[.int .i64 1,.int .i64 1] 3)).alloc (.cells #[.int .i64 2,.slice (some ⟨w.heap.size,0,none⟩) 1 1,.slice (some ⟨w.heap.size + 1,0,none⟩) 2 2] 44)).alloc (.cells #[.int .i64 0] 3)).alloc (.cells #[.int .i64 1,.int .i64 1] 3)).alloc (.cells #[.int .i64 2,.slice (some ⟨w.heap.size,0,none⟩) 1 1,.slice (some ⟨w.heap.size + 1,0,none⟩) 2 2,.int .i64 2,.slice (some ⟨w.heap.size + 1 + 1 + 1,0,none⟩) 1 1,.slice (some ⟨w.heap.size + 1 + 1 + 1 + 1,0,none⟩) 2 2] 44)).alloc (.cells #[.slice (some ⟨w.heap.size + 1 + 1 + 1 + 1 + 1,0,none⟩) 2 2,.int .i64 1] 24)).alloc (.cells #[.int .i64 0,.int .i64 0,.int .i64 4,.int .i64 4] 26)).alloc (.cells #[.bool false,.bool true,.bool true,.bool false,.int .i64 0] 28)) = W9 at *
  obtain ⟨z5,hz5⟩ : ∃ z,z = w.heap.size + 1 + 1 + 1 + 1 + 1 := ⟨_,rfl⟩
  obtain ⟨z6,hz6⟩ : ∃ z,z = w.heap.size + 1 + 1 + 1 + 1 + 1 + 1 := ⟨_,rfl⟩
  obtain ⟨z7,hz7⟩ : ∃ z,z = w.heap.size + 1 + 1 + 1 + 1 + 1 + 1 + 1 := ⟨_,rfl⟩
  obtain ⟨z8,hz8⟩ : ∃ z,z = w.heap.size + 1 + 1 + 1 + 1 + 1 + 1 + 1 + 1 := ⟨_,rfl⟩
  have HA2 : Hid (AQ w (w.heap.size + 1 + 1 + 1 + 1 + 1 + 1 + 1 + 1 + 1) z5 z6 z7 z8 W9) := by rw [hz5,hz6,hz7,hz8]; exact HA.out
  rw [← hz5] at hmk
  rw [← hz8,← hz7,← hz6,← hz5]
  with_reducible refine hmk.mono ?_
  rintro e w1 ⟨pa,pc,rfl,hgp,hpc1,hpc2,hb1⟩
  unfold maxLen at hpc2
  have HG : Hid (Gp w1.heap.size w1 (.slice pa 2 pc) ps20) := hgp
  have b1 := below_new w1 (.cells #[.slice pa 2 pc,.int .i64 (-2),.int .i64 (-2),.int .i64 6,.int .i64 6,.int .i64 2,.int .i64 80] 33)
  have b2 := b1.alloc b1.size (.cells #[.slice pa 2 pc,.int .i64 (-2),.int .i64 (-2),.int .i64 6,.int .i64 6,.int .i64 2,.int .i64 81] 33)
  have b3 := b2.alloc b2.size (.cells #[.slice pa 1 pc,.int .i64 (-2),.int .i64 (-2),.int .i64 6,.int .i64 6,.int .i64 2,.int .i64 80] 33)
  have HB : Hid (AQ w (w.heap.size + 1 + 1 + 1 + 1 + 1 + 1 + 1 + 1 + 1) z5 z6 z7 z8 (((w1.alloc (.cells #[.slice pa 2 pc,.int .i64 (-2),.int .i64 (-2),.int .i64 6,.int .i64 6,.int .i64 2,.int .i64 80] 33)).alloc (.cells #[.slice pa 2 pc,.int .i64 (-2),.int .i64 (-2),.int .i64 6,.int .i64 6,.int .i64 2,.int .i64 81] 33)).alloc (.cells #[.slice pa 1 pc,.int .i64 (-2),.int .i64 (-2),.int .i64 6,.int .i64 6,.int .i64 2,.int .i64 80] 33)) ∧ Box (((w1.alloc (.cells #[.slice pa 2 pc,.int .i64 (-2),.int .i64 (-2),.int .i64 6,.int .i64 6,.int .i64 2,.int .i64 80] 33)).alloc (.cells #[.slice pa 2 pc,.int .i64 (-2),.int .i64 (-2),.int .i64 6,.int .i64 6,.int .i64 2,.int .i64 81] 33)).alloc (.cells #[.slice pa 1 pc,.int .i64 (-2),.int .i64 (-2),.int .i64 6,.int .i64 6,.int .i64 2,.int .i64 80] 33)) w1.heap.size [.slice pa 2 pc,.int .i64 (-2),.int .i64 (-2),.int .i64 6,.int .i64 6,.int .i64 2,.int .i64 80] ∧ Box (((w1.alloc (.cells #[.slice pa 2 pc,.int .i64 (-2),.int .i64 (-2),.int .i64 6,.int .i64 6,.int .i64 2,.int .i64 80] 33)).alloc (.cells #[.slice pa 2 pc,.int .i64 (-2),.int .i64 (-2),.int .i64 6,.int .i64 6,.int .i64 2,.int .i64 81] 33)).alloc (.cells #[.slice pa 1 pc,.int .i64 (-2),.int .i64 (-2),.int .i64 6,.int .i64 6,.int .i64 2,.int .i64 80] 33)) (w1.heap.size + 1) [.slice pa 2 pc,.int .i64 (-2),.int .i64 (-2),.int .i64 6,.int .i64 6,.int .i64 2,.int .i64 81] ∧ Box (((w1.alloc (.cells #[.slice pa 2 pc,.int .i64 (-2),.int .i64 (-2),.int .i64 6,.int .i64 6,.int .i64 2,.int .i64 80] 33)).alloc (.cells #[.slice pa 2 pc,.int .i64 (-2),.int .i64 (-2),.int .i64 6,.int .i64 6,.int .i64 2,.int .i64 81] 33)).alloc (.cells #[.slice pa 1 pc,.int .i64 (-2),.int .i64 (-2),.int .i64 6,.int .i64 6,.int .i64 2,.int .i64 80] 33)) (w1.heap.size + 1 + 1) [.slice pa 1 pc,.int .i64 (-2),.int .i64 (-2),.int .i64 6,.int .i64 6,.int .i64 2,.int .i64 80] ∧ Gp w1.heap.size (((w1.alloc (.cells #[.slice pa 2 pc,.int .i64 (-2),.int .i64 (-2),.int .i64 6,.int .i64 6,.int .i64 2,.int .i64 80] 33)).alloc (.cells #[.slice pa 2 pc,.int .i64 (-2),.int .i64 (-2),.int .i64 6,.int .i64 6,.int .i64 2,.int .i64 81] 33)).alloc (.cells #[.slice pa 1 pc,.int .i64 (-2),.int .i64 (-2),.int .i64 6,.int .i64 6,.int .i64 2,.int .i64 80] 33)) (.slice pa 2 pc) ps20 ∧ Gp w1.heap.size (((w1.alloc (.cells #[.slice pa 2 pc,.int .i64 (-2),.int .i64 (-2),.int .i64 6,.int .i64 6,.int .i64 2,.int .i64 80] 33)).alloc (.cells #[.slice pa 2 pc,.int .i64 (-2),.int .i64 (-2),.int .i64 6,.int .i64 6,.int .i64 2,.int .i64 81] 33)).alloc (.cells #[.slice pa 1 pc,.int .i64 (-2),.int .i64 (-2),.int .i64 6,.int .i64 6,.int .i64 2,.int .i64 80] 33)) (.slice pa 1 pc) (ps20.take 1) ∧ w1.heap.size ≤ (((w1.alloc (.cells #[.slice pa 2 pc,.int .i64 (-2),.int .i64 (-2),.int .i64 6,.int .i64 6,.int .i64 2,.int .i64 80] 33)).alloc (.cells #[.slice pa 2 pc,.int .i64 (-2),.int .i64 (-2),.int .i64 6,.int .i64 6,.int .i64 2,.int .i64 81] 33)).alloc (.cells #[.slice pa 1 pc,.int .i64 (-2),.int .i64 (-2),.int .i64 6,.int .i64 6,.int .i64 2,.int .i64 80] 33)).heap.size ∧ Gr w1.heap.size (((w1.alloc (.cells #[.slice pa 2 pc,.int .i64 (-2),.int .i64 (-2),.int .i64 6,.int .i64 6,.int .i64 2,.int .i64 80] 33)).alloc (.cells #[.slice pa 2 pc,.int .i64 (-2),.int .i64 (-2),.int .i64 6,.int .i64 6,.int .i64 2,.int .i64 81] 33)).alloc (.cells #[.slice pa 1 pc,.int .i64 (-2),.int .i64 (-2),.int .i64 6,.int .i64 6,.int .i64 2,.int .i64 80] 33)) (.slice (some ⟨z5,0,none⟩) 2 2) (ndP 2 [1,1])) := by
    have x1 := ((Box.new w1 [.slice pa 2 pc,.int .i64 (-2),.int .i64 (-2),.int .i64 6,.int .i64 6,.int .i64 2,.int .i64 80] 33).alloc (.cells #[.slice pa 2 pc,.int .i64 (-2),.int .i64 (-2),.int .i64 6,.int .i64 6,.int .i64 2,.int .i64 81] 33)).alloc (.cells #[.slice pa 1 pc,.int .i64 (-2),.int .i64 (-2),.int .i64 6,.int .i64 6,.int .i64 2,.int .i64 80] 33)
    have x2 := (Box.new (w1.alloc (.cells #[.slice pa 2 pc,.int .i64 (-2),.int .i64 (-2),.int .i64 6,.int .i64 6,.int .i64 2,.int .i64 80] 33)) [.slice pa 2 pc,.int .i64 (-2),.int .i64 (-2),.int .i64 6,.int .i64 6,.int .i64 2,.int .i64 81] 33).alloc (.cells #[.slice pa 1 pc,.int .i64 (-2),.int .i64 (-2),.int .i64 6,.int .i64 6,.int .i64 2,.int .i64 80] 33)
    have x3 := Box.new ((w1.alloc (.cells #[.slice pa 2 pc,.int .i64 (-2),.int .i64 (-2),.int .i64 6,.int .i64 6,.int .i64 2,.int .i64 80] 33)).alloc (.cells #[.slice pa 2 pc,.int .i64 (-2),.int .i64 (-2),.int .i64 6,.int .i64 6,.int .i64 2,.int .i64 81] 33)) [.slice pa 1 pc,.int .i64 (-2),.int .i64 (-2),.int .i64 6,.int .i64 6,.int .i64 2,.int .i64 80] 33
    simp only [size_alloc] at x2 x3
    exact ⟨(HA2.out.call hb1).call b3,x1,x2,x3,hgp.below b3 (Nat.le_refl _),(hgp.take (k := 1) (by decide)).below b3 (Nat.le_refl _),b3.size,((HA2.out.call hb1).1.mono (HA2.out.call hb1).2.1).below b3 (Nat.le_refl _)⟩
  clear hb1 hmk hgp HA2 HA hz5 hz6 hz7 hz8 b1 b2 b3 HG
  have HMO : ∀ y ∈ ps20,MkOk (ndP 2 [1,1]) 2 y := mk20
  have HC1 : Hid (∀ W,(AQ w (w.heap.size + 1 + 1 + 1 + 1 + 1 + 1 + 1 + 1 + 1) z5 z6 z7 z8 W ∧ Box W w1.heap.size [.slice pa 2 pc,.int .i64 (-2),.int .i64 (-2),.int .i64 6,.int .i64 6,.int .i64 2,.int .i64 80] ∧ Box W (w1.heap.size + 1) [.slice pa 2 pc,.int .i64 (-2),.int .i64 (-2),.int .i64 6,.int .i64 6,.int .i64 2,.int .i64 81] ∧ Box W (w1.heap.size + 1 + 1) [.slice pa 1 pc,.int .i64 (-2),.int .i64 (-2),.int .i64 6,.int .i64 6,.int .i64 2,.int .i64 80] ∧ Gp w1.heap.size W (.slice pa 2 pc) ps20 ∧ Gp w1.heap.size W (.slice pa 1 pc) (ps20.take 1) ∧ w1.heap.size ≤ W.heap.size ∧ Gr w1.heap.size W (.slice (some ⟨z5,0,none⟩) 2 2) (ndP 2 [1,1])) → Calls Tryz.prog 9 #[.agg #[.slice (some ⟨z5,0,none⟩) 2 2,.int .i64 1],.agg #[.int .i64 0,.int .i64 0,.int .i64 4,.int .i64 4],.agg #[.bool false,.bool true,.bool true,.bool false,.int .i64 0],.agg #[.slice pa 2 pc,.int .i64 (-2),.int .i64 (-2),.int .i64 6,.int .i64 6,.int .i64 2,.int .i64 80]] W (PPost W (.int .i64 0))) := fun W h => by
    have hc := qcheck_c (p := ⟨ps20,⟨-2,-2,6,6⟩,2,80⟩) (c := c20) W h.2.2.2.2.2.2.2 h.2.2.2.2.1 h.2.2.2.2.2.2.1 okP1.gn okP1.rc okP1.ne (ChOk.of okP1 (by decide) (by decide) HMO (by decide))
    rw [chk20] at hc
    exact hc
  have HC2 : Hid (∀ W,(AQ w (w.heap.size + 1 + 1 + 1 + 1 + 1 + 1 + 1 + 1 + 1) z5 z6 z7 z8 W ∧ Box W w1.heap.size [.slice pa 2 pc,.int .i64 (-2),.int .i64 (-2),.int .i64 6,.int .i64 6,.int .i64 2,.int .i64 80] ∧ Box W (w1.heap.size + 1) [.slice pa 2 pc,.int .i64 (-2),.int .i64 (-2),.int .i64 6,.int .i64 6,.int .i64 2,.int .i64 81] ∧ Box W (w1.heap.size + 1 + 1) [.slice pa 1 pc,.int .i64 (-2),.int .i64 (-2),.int .i64 6,.int .i64 6,.int .i64 2,.int .i64 80] ∧ Gp w1.heap.size W (.slice pa 2 pc) ps20 ∧ Gp w1.heap.size W (.slice pa 1 pc) (ps20.take 1) ∧ w1.heap.size ≤ W.heap.size ∧ Gr w1.heap.size W (.slice (some ⟨z5,0,none⟩) 2 2) (ndP 2 [1,1])) → Calls Tryz.prog 9 #[.agg #[.slice (some ⟨z5,0,none⟩) 2 2,.int .i64 1],.agg #[.int .i64 0,.int .i64 0,.int .i64 4,.int .i64 4],.agg #[.bool false,.bool true,.bool true,.bool false,.int .i64 0],.agg #[.slice pa 2 pc,.int .i64 (-2),.int .i64 (-2),.int .i64 6,.int .i64 6,.int .i64 2,.int .i64 81]] W (PPost W (.int .i64 12))) := fun W h => by
    have hc := qcheck_c (p := ⟨ps20,⟨-2,-2,6,6⟩,2,81⟩) (c := c20) W h.2.2.2.2.2.2.2 h.2.2.2.2.1 h.2.2.2.2.2.2.1 okP1.gn okP1.rc okP1.ne (ChOk.of okP1 (by decide) (by decide) HMO (by decide))
    rw [chk20] at hc
    exact hc
  have HC3 : Hid (∀ W,(AQ w (w.heap.size + 1 + 1 + 1 + 1 + 1 + 1 + 1 + 1 + 1) z5 z6 z7 z8 W ∧ Box W w1.heap.size [.slice pa 2 pc,.int .i64 (-2),.int .i64 (-2),.int .i64 6,.int .i64 6,.int .i64 2,.int .i64 80] ∧ Box W (w1.heap.size + 1) [.slice pa 2 pc,.int .i64 (-2),.int .i64 (-2),.int .i64 6,.int .i64 6,.int .i64 2,.int .i64 81] ∧ Box W (w1.heap.size + 1 + 1) [.slice pa 1 pc,.int .i64 (-2),.int .i64 (-2),.int .i64 6,.int .i64 6,.int .i64 2,.int .i64 80] ∧ Gp w1.heap.size W (.slice pa 2 pc) ps20 ∧ Gp w1.heap.size W (.slice pa 1 pc) (ps20.take 1) ∧ w1.heap.size ≤ W.heap.size ∧ Gr w1.heap.size W (.slice (some ⟨z5,0,none⟩) 2 2) (ndP 2 [1,1])) → Calls Tryz.prog 9 #[.agg #[.slice (some ⟨z5,0,none⟩) 2 2,.int .i64 1],.agg #[.int .i64 0,.int .i64 0,.int .i64 4,.int .i64 4],.agg #[.bool false,.bool true,.bool true,.bool false,.int .i64 0],.agg #[.slice pa 1 pc,.int .i64 (-2),.int .i64 (-2),.int .i64 6,.int .i64 6,.int .i64 2,.int .i64 80]] W (PPost W (.int .i64 12))) := fun W h => by
    have hc := qcheck_c (p := ⟨ps20.take 1,⟨-2,-2,6,6⟩,2,80⟩) (c := c20) W h.2.2.2.2.2.2.2 h.2.2.2.2.2.1 h.2.2.2.2.2.2.1 okP1.gn okP1.rc okP1.ne (ChOk.of okP1 (by decide) (by decide) (fun y hy => HMO y (List.mem_of_mem_take hy)) (by decide))
    rw [chk20b] at hc
    exact hc
  clear HMO
  have g0 := HB.out.1.2.2.1.cell 0 rfl
  have g1 := HB.out.1.2.2.1.cell 1 rfl
  have r0 := HB.out.1.2.2.2.1.cell 0 rfl
  have r1 := HB.out.1.2.2.2.1.cell 1 rfl
  have r2 := HB.out.1.2.2.2.1.cell 2 rfl
  have r3 := HB.out.1.2.2.2.1.cell 3 rfl
  have c0 := HB.out.1.2.2.2.2.1.cell 0 rfl
  have c1 := HB.out.1.2.2.2.2.1.cell 1 rfl
  have c2 := HB.out.1.2.2.2.2.1.cell 2 rfl
  have c3 := HB.out.1.2.2.2.2.1.cell 3 rfl
  have c4 := HB.out.1.2.2.2.2.1.cell 4 rfl
  have p0 := HB.out.2.1.cell 0 rfl
  have p1 := HB.out.2.1.cell 1 rfl
  have p2 := HB.out.2.1.cell 2 rfl
  have p3 := HB.out.2.1.cell 3 rfl
  have p4 := HB.out.2.1.cell 4 rfl
  have p5 := HB.out.2.1.cell 5 rfl
  have p6 := HB.out.2.1.cell 6 rfl
  have q0 := HB.out.2.2.1.cell 0 rfl
  have q1 := HB.out.2.2.1.cell 1 rfl
  have q2 := HB.out.2.2.1.cell 2 rfl
  have q3 := HB.out.2.2.1.cell 3 rfl
  have q4 := HB.out.2.2.1.cell 4 rfl
  have q5 := HB.out.2.2.1.cell 5 rfl
  have q6 := HB.out.2.2.1.cell 6 rfl
  have s0 := HB.out.2.2.2.1.cell 0 rfl
  have s1 := HB.out.2.2.2.1.cell 1 rfl
  have s2 := HB.out.2.2.2.1.cell 2 rfl
  have s3 := HB.out.2.2.2.1.cell 3 rfl
  have s4 := HB.out.2.2.2.1.cell 4 rfl
  have s5 := HB.out.2.2.2.1.cell 5 rfl
  have s6 := HB.out.2.2.2.1.cell 6 rfl
  have hc := HC1.out _ HB.out
  go_wp2_with fail
  with_reducible refine hc.mono ?_
  rintro e w2 ⟨rfl,hb⟩
  have HB' : Hid (AQ w (w.heap.size + 1 + 1 + 1 + 1 + 1 + 1 + 1 + 1 + 1) z5 z6 z7 z8 w2 ∧ Box w2 w1.heap.size [.slice pa 2 pc,.int .i64 (-2),.int .i64 (-2),.int .i64 6,.int .i64 6,.int .i64 2,.int .i64 80] ∧ Box w2 (w1.heap.size + 1) [.slice pa 2 pc,.int .i64 (-2),.int .i64 (-2),.int .i64 6,.int .i64 6,.int .i64 2,.int .i64 81] ∧ Box w2 (w1.heap.size + 1 + 1) [.slice pa 1 pc,.int .i64 (-2),.int .i64 (-2),.int .i64 6,.int .i64 6,.int .i64 2,.int .i64 80] ∧ Gp w1.heap.size w2 (.slice pa 2 pc) ps20 ∧ Gp w1.heap.size w2 (.slice pa 1 pc) (ps20.take 1) ∧ w1.heap.size ≤ w2.heap.size ∧ Gr w1.heap.size w2 (.slice (some ⟨z5,0,none⟩) 2 2) (ndP 2 [1,1])) := by
    obtain ⟨h1,h2,h3,h4,h5,h6,h7,h8⟩ := HB.out
    exact ⟨h1.call hb,h2.call hb,h3.call hb,h4.call hb,h5.below hb h7,h6.below hb h7,Nat.le_trans h7 hb.size,h8.below hb h7⟩
  clear hb hc HB
  have HB := HB'
  clear HB'
  clear g0 g1 r0 r1 r2 r3 c0 c1 c2 c3 c4 p0 p1 p2 p3 p4 p5 p6 q0 q1 q2 q3 q4 q5 q6 s0 s1 s2 s3 s4 s5 s6
  have g0 := HB.out.1.2.2.1.cell 0 rfl
  have g1 := HB.out.1.2.2.1.cell 1 rfl
  have r0 := HB.out.1.2.2.2.1.cell 0 rfl
  have r1 := HB.out.1.2.2.2.1.cell 1 rfl
  have r2 := HB.out.1.2.2.2.1.cell 2 rfl
  have r3 := HB.out.1.2.2.2.1.cell 3 rfl
  have c0 := HB.out.1.2.2.2.2.1.cell 0 rfl
  have c1 := HB.out.1.2.2.2.2.1.cell 1 rfl
  have c2 := HB.out.1.2.2.2.2.1.cell 2 rfl
  have c3 := HB.out.1.2.2.2.2.1.cell 3 rfl
  have c4 := HB.out.1.2.2.2.2.1.cell 4 rfl
  have p0 := HB.out.2.1.cell 0 rfl
  have p1 := HB.out.2.1.cell 1 rfl
  have p2 := HB.out.2.1.cell 2 rfl
  have p3 := HB.out.2.1.cell 3 rfl
  have p4 := HB.out.2.1.cell 4 rfl
  have p5 := HB.out.2.1.cell 5 rfl
  have p6 := HB.out.2.1.cell 6 rfl
  have q0 := HB.out.2.2.1.cell 0 rfl
  have q1 := HB.out.2.2.1.cell 1 rfl
  have q2 := HB.out.2.2.1.cell 2 rfl
  have q3 := HB.out.2.2.1.cell 3 rfl
  have q4 := HB.out.2.2.1.cell 4 rfl
  have q5 := HB.out.2.2.1.cell 5 rfl
  have q6 := HB.out.2.2.1.cell 6 rfl
  have s0 := HB.out.2.2.2.1.cell 0 rfl
  have s1 := HB.out.2.2.2.1.cell 1 rfl
  have s2 := HB.out.2.2.2.1.cell 2 rfl
  have s3 := HB.out.2.2.2.1.cell 3 rfl
  have s4 := HB.out.2.2.2.1.cell 4 rfl
  have s5 := HB.out.2.2.2.1.cell 5 rfl
  have s6 := HB.out.2.2.2.1.cell 6 rfl
  have hc := HC2.out _ HB.out
  go_wp2_with fail
  with_reducible refine hc.mono ?_
  rintro e w3 ⟨rfl,hb⟩
  have HB' : Hid (AQ w (w.heap.size + 1 + 1 + 1 + 1 + 1 + 1 + 1 + 1 + 1) z5 z6 z7 z8 w3 ∧ Box w3 w1.heap.size [.slice pa 2 pc,.int .i64 (-2),.int .i64 (-2),.int .i64 6,.int .i64 6,.int .i64 2,.int .i64 80] ∧ Box w3 (w1.heap.size + 1) [.slice pa 2 pc,.int .i64 (-2),.int .i64 (-2),.int .i64 6,.int .i64 6,.int .i64 2,.int .i64 81] ∧ Box w3 (w1.heap.size + 1 + 1) [.slice pa 1 pc,.int .i64 (-2),.int .i64 (-2),.int .i64 6,.int .i64 6,.int .i64 2,.int .i64 80] ∧ Gp w1.heap.size w3 (.slice pa 2 pc) ps20 ∧ Gp w1.heap.size w3 (.slice pa 1 pc) (ps20.take 1) ∧ w1.heap.size ≤ w3.heap.size ∧ Gr w1.heap.size w3 (.slice (some ⟨z5,0,none⟩) 2 2) (ndP 2 [1,1])) := by
    obtain ⟨h1,h2,h3,h4,h5,h6,h7,h8⟩ := HB.out
    exact ⟨h1.call hb,h2.call hb,h3.call hb,h4.call hb,h5.below hb h7,h6.below hb h7,Nat.le_trans h7 hb.size,h8.below hb h7⟩
  clear hb hc HB
  have HB := HB'
  clear HB'
  clear g0 g1 r0 r1 r2 r3 c0 c1 c2 c3 c4 p0 p1 p2 p3 p4 p5 p6 q0 q1 q2 q3 q4 q5 q6 s0 s1 s2 s3 s4 s5 s6
  have g0 := HB.out.1.2.2.1.cell 0 rfl
  have g1 := HB.out.1.2.2.1.cell 1 rfl
  have r0 := HB.out.1.2.2.2.1.cell 0 rfl
  have r1 := HB.out.1.2.2.2.1.cell 1 rfl
  have r2 := HB.out.1.2.2.2.1.cell 2 rfl
  have r3 := HB.out.1.2.2.2.1.cell 3 rfl
  have c0 := HB.out.1.2.2.2.2.1.cell 0 rfl
  have c1 := HB.out.1.2.2.2.2.1.cell 1 rfl
  have c2 := HB.out.1.2.2.2.2.1.cell 2 rfl
  have c3 := HB.out.1.2.2.2.2.1.cell 3 rfl
  have c4 := HB.out.1.2.2.2.2.1.cell 4 rfl
  have p0 := HB.out.2.1.cell 0 rfl
  have p1 := HB.out.2.1.cell 1 rfl
  have p2 := HB.out.2.1.cell 2 rfl
  have p3 := HB.out.2.1.cell 3 rfl
  have p4 := HB.out.2.1.cell 4 rfl
  have p5 := HB.out.2.1.cell 5 rfl
  have p6 := HB.out.2.1.cell 6 rfl
  have q0 := HB.out.2.2.1.cell 0 rfl
  have q1 := HB.out.2.2.1.cell 1 rfl
  have q2 := HB.out.2.2.1.cell 2 rfl
  have q3 := HB.out.2.2.1.cell 3 rfl
  have q4 := HB.out.2.2.1.cell 4 rfl
  have q5 := HB.out.2.2.1.cell 5 rfl
  have q6 := HB.out.2.2.1.cell 6 rfl
  have s0 := HB.out.2.2.2.1.cell 0 rfl
  have s1 := HB.out.2.2.2.1.cell 1 rfl
  have s2 := HB.out.2.2.2.1.cell 2 rfl
  have s3 := HB.out.2.2.2.1.cell 3 rfl
  have s4 := HB.out.2.2.2.1.cell 4 rfl
  have s5 := HB.out.2.2.2.1.cell 5 rfl
  have s6 := HB.out.2.2.2.1.cell 6 rfl
  have hc := HC3.out _ HB.out
  go_wp2_with fail
  with_reducible refine hc.mono ?_
  rintro e w4 ⟨rfl,hb⟩
  have HB' : Hid (AQ w (w.heap.size + 1 + 1 + 1 + 1 + 1 + 1 + 1 + 1 + 1) z5 z6 z7 z8 w4 ∧ Box w4 w1.heap.size [.slice pa 2 pc,.int .i64 (-2),.int .i64 (-2),.int .i64 6,.int .i64 6,.int .i64 2,.int .i64 80] ∧ Box w4 (w1.heap.size + 1) [.slice pa 2 pc,.int .i64 (-2),.int .i64 (-2),.int .i64 6,.int .i64 6,.int .i64 2,.int .i64 81] ∧ Box w4 (w1.heap.size + 1 + 1) [.slice pa 1 pc,.int .i64 (-2),.int .i64 (-2),.int .i64 6,.int .i64 6,.int .i64 2,.int .i64 80] ∧ Gp w1.heap.size w4 (.slice pa 2 pc) ps20 ∧ Gp w1.heap.size w4 (.slice pa 1 pc) (ps20.take 1) ∧ w1.heap.size ≤ w4.heap.size ∧ Gr w1.heap.size w4 (.slice (some ⟨z5,0,none⟩) 2 2) (ndP 2 [1,1])) := by
    obtain ⟨h1,h2,h3,h4,h5,h6,h7,h8⟩ := HB.out
    exact ⟨h1.call hb,h2.call hb,h3.call hb,h4.call hb,h5.below hb h7,h6.below hb h7,Nat.le_trans h7 hb.size,h8.below hb h7⟩
  clear hb hc HB
  have HB := HB'
  clear HB'
  clear g0 g1 r0 r1 r2 r3 c0 c1 c2 c3 c4 p0 p1 p2 p3 p4 p5 p6 q0 q1 q2 q3 q4 q5 q6 s0 s1 s2 s3 s4 s5 s6
  go_wp2_with fail
  go_ret
  exact ⟨rfl,HB.out.1.2.2.2.2.2⟩
end Go.Proofs.YtaoamkbcegadcaaGreatDoor
