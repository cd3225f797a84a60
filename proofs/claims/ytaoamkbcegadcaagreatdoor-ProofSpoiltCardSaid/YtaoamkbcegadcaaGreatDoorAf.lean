/- Texts joined: XNu XNv. -/
import Derived.Test.YtaoamkbcegadcaaGreatDoorAe
import Derived.Test.YtaoamkbcegadcaaGreatDoorAa
import Derived.Test.YtaoamkbcegadcaaGreatDoorAc
import Derived.Laws.StructEq
set_option maxRecDepth 4000
/- Layer 3, the document's answer: rectangles. -/
namespace Go.Proofs.YtaoamkbcegadcaaGreatDoor
open Go.RowKit Go.Bx Go.Od Go.Hp
attribute [local go_sem ↓] Go.wp_at_zero Go.wp_at_succ
set_option linter.unusedVariables false

theorem rempty_c (r : Rc) (w : World) : Calls Tryz.prog 11 #[rv r] w (PPost w (.bool r.emp)) := by
  obtain ⟨x0,y0,x1,y1⟩ := r
  have HX : Hid (Box (w.alloc (.cells (cs4 x0 y0 x1 y1) 26)) w.heap.size (cl4 ⟨x0,y0,x1,y1⟩) ∧ Below w.heap.size w (w.alloc (.cells (cs4 x0 y0 x1 y1) 26))) := ⟨Box.new w _ _,below_new _ _⟩
  obtain ⟨d0,h0⟩ : ∃ d,decide (x0 < x1) = d := ⟨_,rfl⟩
  obtain ⟨d1,h1⟩ : ∃ d,decide (y0 < y1) = d := ⟨_,rfl⟩
  have HE : Hid (Rc.emp ⟨x0,y0,x1,y1⟩ = !(d0 && d1)) := by
    have : Rc.emp ⟨x0,y0,x1,y1⟩ = !(d0 && d1) := by
      rw [← h0,← h1]
      unfold Rc.emp
      dsimp only
      by_cases e0 : x0 < x1 <;> by_cases e1 : y0 < y1 <;> simp [e0,e1] <;> omega
    exact this
  cases d0 with
  | false =>
    go_enter Tryz.func11,Tryz.ntmps11
    go_wp2_with fail
    go_ret
    exact ⟨ret_b HE.out.symm,HX.out.2⟩
  | true =>
    cases d1 with
    | false =>
      go_enter Tryz.func11,Tryz.ntmps11
      go_wp2_with fail
      go_ret
      exact ⟨ret_b HE.out.symm,HX.out.2⟩
    | true =>
      go_enter Tryz.func11,Tryz.ntmps11
      go_wp2_with fail
      go_ret
      exact ⟨ret_b HE.out.symm,HX.out.2⟩
end Go.Proofs.YtaoamkbcegadcaaGreatDoor
/- Layer 14: comparing rectangles; the program's answer for a right filter; 'awake'. -/
namespace Go.Proofs.YtaoamkbcegadcaaGreatDoor
open Go.RowKit Go.Bx Go.Od Go.Hp
attribute [local go_sem ↓] Go.wp_at_zero Go.wp_at_succ
set_option linter.unusedVariables false

theorem struct_Rect : Tryz.prog.underlying 26 = some (.struct (Tryz.prog.fieldsOf 26)) := by kernel_rfl
theorem stood_Rect : Tryz.prog.stoodInHeld 26 = false := by kernel_rfl
theorem fields_Rect : (Tryz.prog.fieldsOf 26).toList.map (fun f => (decide (f.name = "_"), f.type, f.offset)) = [(false, 3, 0), (false, 3, 1), (false, 3, 2), (false, 3, 3)] := by kernel_rfl
theorem all14_c (B : Nat) (nv : Value) (nds : List Nd) (out : Int) (want : Rc) (w : World) (hgd : GoodN nds out) (hg : Gr B w nv nds) (hB : B ≤ w.heap.size) (hw : RcP want) :
    Calls Tryz.prog 26 #[.agg #[nv,.int .i64 out],rv want] w (NaPost w nds.length (allN nds want out)) := by
  obtain ⟨o,rfl⟩ : ∃ o : Nat,out = o := ⟨out.toNat,by have := hgd.outs.1; omega⟩
  have h0 : 0 < (ord (insOf nds)).length := List.length_pos_of_mem (hgd.full 0 hgd.pos)
  exact (callsIn_wide (n := 6)).1 (needall_in Fence.wide 6 (fun _ => trivial) rfl (by omega) (fun h => callsIn_wide.2 h) B nv nds o want w (by have := hgd.few; omega) hgd.short hg hB (by have := hgd.outs.2; omega) hw h0 hgd.pa hgd.rng)
theorem sl_box {W : World} {b B n : Nat} {xs : List Int} (h : Box W b (xs.map (Value.int .i64))) (hn : n = xs.length) (hx : ∀ x ∈ xs,In64 x) (hb : b < B) (hl : n ≤ maxLen) : SlOf RInt 1 (· < B) W (.slice (some ⟨b,0,none⟩) n n) xs := by
  subst hn
  refine ⟨_,xs.length,rfl,Nat.le_refl _,hl,.inr ⟨b,0,rfl,hb,fun i x hi => ?_⟩⟩
  refine ⟨[.int .i64 x],rfl,fun j u hu => ?_,rfl,hx x (List.mem_of_getElem? hi)⟩
  cases j with
  | zero =>
    simp at hu
    subst hu
    simp only [Nat.mul_one,Nat.zero_add,Nat.add_zero]
    exact h.cell i (by simp [hi])
  | succ j => simp at hu
theorem in_small {x : Int} (h : -1000 ≤ x ∧ x ≤ 1000) : In64 x := by unfold In64; omega
end Go.Proofs.YtaoamkbcegadcaaGreatDoor
