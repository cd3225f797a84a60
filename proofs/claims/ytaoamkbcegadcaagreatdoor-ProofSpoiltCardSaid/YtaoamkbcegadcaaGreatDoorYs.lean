/- Texts joined: XYs XYt. -/
import Derived.Test.YtaoamkbcegadcaaGreatDoorYn
import Derived.Test.YtaoamkbcegadcaaGreatDoorAf
import Derived.Test.YtaoamkbcegadcaaGreatDoorAb
set_option maxRecDepth 4000
/- Layer 19: the law's own 'awake'. (Printed by mk_ys.py.) -/
namespace Go.Proofs.YtaoamkbcegadcaaGreatDoor
open Go.RowKit Go.Bx Go.Od Go.Hp
attribute [local go_sem ↓] Go.wp_at_zero Go.wp_at_succ
set_option linter.unusedVariables false

def clP (op : Int) (p q b c m : Nat) : List Value := [.int .i64 2,.slice (some ⟨p,0,none⟩) 1 1,.slice (some ⟨q,0,none⟩) 2 2,.int .i64 op,.slice (some ⟨b,0,none⟩) 1 1,.slice (some ⟨c,0,none⟩) m m]
theorem grP {W : World} {op : Int} {g p q b c m : Nat} {ps : List Int} {B : Nat} (hg : Box W g (clP op p q b c m)) (hp : Box W p ([-1].map (Value.int .i64))) (hq : Box W q ([1,1].map (Value.int .i64))) (hb : Box W b ([0].map (Value.int .i64))) (hc : Box W c (ps.map (Value.int .i64))) (hm : m = ps.length) (hs : ∀ z ∈ ps,In64 z) (hm2 : m ≤ 100) (ho : In64 op) (hB : W.heap.size ≤ B) : Gr B W (.slice (some ⟨g,0,none⟩) 2 2) (ndP op ps) := by
  have s1 : SlOf RInt 1 (· < B) W (.slice (some ⟨p,0,none⟩) 1 1) [-1] := sl_box hp rfl (fun z hz => in_small (by simp at hz; omega)) (Nat.lt_of_lt_of_le hp.lt hB) (by decide)
  have s2 : SlOf RInt 1 (· < B) W (.slice (some ⟨q,0,none⟩) 2 2) [1,1] := sl_box hq rfl (fun z hz => in_small (by simp at hz; omega)) (Nat.lt_of_lt_of_le hq.lt hB) (by decide)
  have s3 : SlOf RInt 1 (· < B) W (.slice (some ⟨b,0,none⟩) 1 1) [0] := sl_box hb rfl (fun z hz => in_small (by simp at hz; omega)) (Nat.lt_of_lt_of_le hb.lt hB) (by decide)
  have s4 : SlOf RInt 1 (· < B) W (.slice (some ⟨c,0,none⟩) m m) ps := sl_box hc hm hs (Nat.lt_of_lt_of_le hc.lt hB) (by unfold maxLen; omega)
  refine ⟨_,2,rfl,Nat.le_refl _,by decide,.inr ⟨g,0,rfl,Nat.lt_of_lt_of_le hg.lt hB,fun i x' hi => ?_⟩⟩
  match i,hi with
  | 0,hi =>
    simp [ndP] at hi; subst hi
    exact ⟨_,rfl,lies3 hg 0 rfl rfl rfl,_,_,rfl,in_small (x := 2) (by decide),s1,s2⟩
  | 1,hi =>
    simp [ndP] at hi; subst hi
    exact ⟨_,rfl,lies3 hg 3 rfl rfl rfl,_,_,rfl,ho,s3,hm ▸ s4⟩
  | i + 2,hi => simp [ndP] at hi
def HR (n p q : Nat) (i : Nat) (v : Value) (W : World) : Prop := match i with
  | 1 => ∃ b,v = .slice (some ⟨b,0,none⟩) 1 1 ∧ n ≤ b ∧ Box W b ([0].map (Value.int .i64))
  | 2 => ∃ b,v = .slice (some ⟨b,0,none⟩) 20 20 ∧ n ≤ b ∧ Box W b ((List.replicate 20 0).map (Value.int .i64))
  | 3 => ∃ b c,v = .agg #[.int .i64 5,.slice (some ⟨b,0,none⟩) 1 1,.slice (some ⟨c,0,none⟩) 20 20] ∧ n ≤ b ∧ n ≤ c ∧ Box W b ([0].map (Value.int .i64)) ∧ Box W c ((List.replicate 20 0).map (Value.int .i64))
  | 4 => ∃ g b c,v = .slice (some ⟨g,0,none⟩) 2 2 ∧ n ≤ g ∧ n ≤ b ∧ n ≤ c ∧ Box W g (clP 5 p q b c 20) ∧ Box W b ([0].map (Value.int .i64)) ∧ Box W c ((List.replicate 20 0).map (Value.int .i64))
  | 5 => ∃ g b c,v = .agg #[.slice (some ⟨g,0,none⟩) 2 2,.int .i64 1] ∧ n ≤ g ∧ n ≤ b ∧ n ≤ c ∧ Box W g (clP 5 p q b c 20) ∧ Box W b ([0].map (Value.int .i64)) ∧ Box W c ((List.replicate 20 0).map (Value.int .i64))
  | 6 => ∃ g,v = .pointer (some ⟨g,0,none⟩) ∧ n ≤ g ∧ Box W g [.slice none 0 0,.int .i64 0]
  | _ => True
theorem awP (w : World) : Box (((((((w.alloc (.cells #[.int .i64 (-1)] 3)).alloc (.cells #[.int .i64 1,.int .i64 1] 3)).alloc (.cells #[.int .i64 2,.slice (some ⟨w.heap.size,0,none⟩) 1 1,.slice (some ⟨w.heap.size + 1,0,none⟩) 2 2] 44)).alloc (.cells #[.int .i64 0] 3)).alloc (.cells #[.int .i64 1,.int .i64 1] 3)).alloc (.cells #[.int .i64 2,.slice (some ⟨w.heap.size,0,none⟩) 1 1,.slice (some ⟨w.heap.size + 1,0,none⟩) 2 2,.int .i64 2,.slice (some ⟨w.heap.size + 1 + 1 + 1,0,none⟩) 1 1,.slice (some ⟨w.heap.size + 1 + 1 + 1 + 1,0,none⟩) 2 2] 44)).alloc (.cells #[.slice (some ⟨w.heap.size + 1 + 1 + 1 + 1 + 1,0,none⟩) 2 2,.int .i64 1] 24)) (w.heap.size) ([-1].map (Value.int .i64)) ∧ Box (((((((w.alloc (.cells #[.int .i64 (-1)] 3)).alloc (.cells #[.int .i64 1,.int .i64 1] 3)).alloc (.cells #[.int .i64 2,.slice (some ⟨w.heap.size,0,none⟩) 1 1,.slice (some ⟨w.heap.size + 1,0,none⟩) 2 2] 44)).alloc (.cells #[.int .i64 0] 3)).alloc (.cells #[.int .i64 1,.int .i64 1] 3)).alloc (.cells #[.int .i64 2,.slice (some ⟨w.heap.size,0,none⟩) 1 1,.slice (some ⟨w.heap.size + 1,0,none⟩) 2 2,.int .i64 2,.slice (some ⟨w.heap.size + 1 + 1 + 1,0,none⟩) 1 1,.slice (some ⟨w.heap.size + 1 + 1 + 1 + 1,0,none⟩) 2 2] 44)).alloc (.cells #[.slice (some ⟨w.heap.size + 1 + 1 + 1 + 1 + 1,0,none⟩) 2 2,.int .i64 1] 24)) (w.heap.size + 1) ([1,1].map (Value.int .i64)) ∧ Box (((((((w.alloc (.cells #[.int .i64 (-1)] 3)).alloc (.cells #[.int .i64 1,.int .i64 1] 3)).alloc (.cells #[.int .i64 2,.slice (some ⟨w.heap.size,0,none⟩) 1 1,.slice (some ⟨w.heap.size + 1,0,none⟩) 2 2] 44)).alloc (.cells #[.int .i64 0] 3)).alloc (.cells #[.int .i64 1,.int .i64 1] 3)).alloc (.cells #[.int .i64 2,.slice (some ⟨w.heap.size,0,none⟩) 1 1,.slice (some ⟨w.heap.size + 1,0,none⟩) 2 2,.int .i64 2,.slice (some ⟨w.heap.size + 1 + 1 + 1,0,none⟩) 1 1,.slice (some ⟨w.heap.size + 1 + 1 + 1 + 1,0,none⟩) 2 2] 44)).alloc (.cells #[.slice (some ⟨w.heap.size + 1 + 1 + 1 + 1 + 1,0,none⟩) 2 2,.int .i64 1] 24)) (w.heap.size + 1 + 1) [.int .i64 2,.slice (some ⟨w.heap.size,0,none⟩) 1 1,.slice (some ⟨w.heap.size + 1,0,none⟩) 2 2] ∧ Box (((((((w.alloc (.cells #[.int .i64 (-1)] 3)).alloc (.cells #[.int .i64 1,.int .i64 1] 3)).alloc (.cells #[.int .i64 2,.slice (some ⟨w.heap.size,0,none⟩) 1 1,.slice (some ⟨w.heap.size + 1,0,none⟩) 2 2] 44)).alloc (.cells #[.int .i64 0] 3)).alloc (.cells #[.int .i64 1,.int .i64 1] 3)).alloc (.cells #[.int .i64 2,.slice (some ⟨w.heap.size,0,none⟩) 1 1,.slice (some ⟨w.heap.size + 1,0,none⟩) 2 2,.int .i64 2,.slice (some ⟨w.heap.size + 1 + 1 + 1,0,none⟩) 1 1,.slice (some ⟨w.heap.size + 1 + 1 + 1 + 1,0,none⟩) 2 2] 44)).alloc (.cells #[.slice (some ⟨w.heap.size + 1 + 1 + 1 + 1 + 1,0,none⟩) 2 2,.int .i64 1] 24)) (w.heap.size + 1 + 1 + 1) ([0].map (Value.int .i64)) ∧ Box (((((((w.alloc (.cells #[.int .i64 (-1)] 3)).alloc (.cells #[.int .i64 1,.int .i64 1] 3)).alloc (.cells #[.int .i64 2,.slice (some ⟨w.heap.size,0,none⟩) 1 1,.slice (some ⟨w.heap.size + 1,0,none⟩) 2 2] 44)).alloc (.cells #[.int .i64 0] 3)).alloc (.cells #[.int .i64 1,.int .i64 1] 3)).alloc (.cells #[.int .i64 2,.slice (some ⟨w.heap.size,0,none⟩) 1 1,.slice (some ⟨w.heap.size + 1,0,none⟩) 2 2,.int .i64 2,.slice (some ⟨w.heap.size + 1 + 1 + 1,0,none⟩) 1 1,.slice (some ⟨w.heap.size + 1 + 1 + 1 + 1,0,none⟩) 2 2] 44)).alloc (.cells #[.slice (some ⟨w.heap.size + 1 + 1 + 1 + 1 + 1,0,none⟩) 2 2,.int .i64 1] 24)) (w.heap.size + 1 + 1 + 1 + 1) ([1,1].map (Value.int .i64)) ∧ Box (((((((w.alloc (.cells #[.int .i64 (-1)] 3)).alloc (.cells #[.int .i64 1,.int .i64 1] 3)).alloc (.cells #[.int .i64 2,.slice (some ⟨w.heap.size,0,none⟩) 1 1,.slice (some ⟨w.heap.size + 1,0,none⟩) 2 2] 44)).alloc (.cells #[.int .i64 0] 3)).alloc (.cells #[.int .i64 1,.int .i64 1] 3)).alloc (.cells #[.int .i64 2,.slice (some ⟨w.heap.size,0,none⟩) 1 1,.slice (some ⟨w.heap.size + 1,0,none⟩) 2 2,.int .i64 2,.slice (some ⟨w.heap.size + 1 + 1 + 1,0,none⟩) 1 1,.slice (some ⟨w.heap.size + 1 + 1 + 1 + 1,0,none⟩) 2 2] 44)).alloc (.cells #[.slice (some ⟨w.heap.size + 1 + 1 + 1 + 1 + 1,0,none⟩) 2 2,.int .i64 1] 24)) (w.heap.size + 1 + 1 + 1 + 1 + 1) (clP 2 (w.heap.size) (w.heap.size + 1) (w.heap.size + 1 + 1 + 1) (w.heap.size + 1 + 1 + 1 + 1) 2) ∧ Box (((((((w.alloc (.cells #[.int .i64 (-1)] 3)).alloc (.cells #[.int .i64 1,.int .i64 1] 3)).alloc (.cells #[.int .i64 2,.slice (some ⟨w.heap.size,0,none⟩) 1 1,.slice (some ⟨w.heap.size + 1,0,none⟩) 2 2] 44)).alloc (.cells #[.int .i64 0] 3)).alloc (.cells #[.int .i64 1,.int .i64 1] 3)).alloc (.cells #[.int .i64 2,.slice (some ⟨w.heap.size,0,none⟩) 1 1,.slice (some ⟨w.heap.size + 1,0,none⟩) 2 2,.int .i64 2,.slice (some ⟨w.heap.size + 1 + 1 + 1,0,none⟩) 1 1,.slice (some ⟨w.heap.size + 1 + 1 + 1 + 1,0,none⟩) 2 2] 44)).alloc (.cells #[.slice (some ⟨w.heap.size + 1 + 1 + 1 + 1 + 1,0,none⟩) 2 2,.int .i64 1] 24)) (w.heap.size + 1 + 1 + 1 + 1 + 1 + 1) [.slice (some ⟨w.heap.size + 1 + 1 + 1 + 1 + 1,0,none⟩) 2 2,.int .i64 1] ∧ Below w.heap.size w (((((((w.alloc (.cells #[.int .i64 (-1)] 3)).alloc (.cells #[.int .i64 1,.int .i64 1] 3)).alloc (.cells #[.int .i64 2,.slice (some ⟨w.heap.size,0,none⟩) 1 1,.slice (some ⟨w.heap.size + 1,0,none⟩) 2 2] 44)).alloc (.cells #[.int .i64 0] 3)).alloc (.cells #[.int .i64 1,.int .i64 1] 3)).alloc (.cells #[.int .i64 2,.slice (some ⟨w.heap.size,0,none⟩) 1 1,.slice (some ⟨w.heap.size + 1,0,none⟩) 2 2,.int .i64 2,.slice (some ⟨w.heap.size + 1 + 1 + 1,0,none⟩) 1 1,.slice (some ⟨w.heap.size + 1 + 1 + 1 + 1,0,none⟩) 2 2] 44)).alloc (.cells #[.slice (some ⟨w.heap.size + 1 + 1 + 1 + 1 + 1,0,none⟩) 2 2,.int .i64 1] 24)) := by
  have h0 := Box.new w [.int .i64 (-1)] 3
  have h1 := Box.new (w.alloc (.cells #[.int .i64 (-1)] 3)) [.int .i64 1,.int .i64 1] 3
  have h2 := Box.new ((w.alloc (.cells #[.int .i64 (-1)] 3)).alloc (.cells #[.int .i64 1,.int .i64 1] 3)) [.int .i64 2,.slice (some ⟨w.heap.size,0,none⟩) 1 1,.slice (some ⟨w.heap.size + 1,0,none⟩) 2 2] 44
  have h3 := Box.new (((w.alloc (.cells #[.int .i64 (-1)] 3)).alloc (.cells #[.int .i64 1,.int .i64 1] 3)).alloc (.cells #[.int .i64 2,.slice (some ⟨w.heap.size,0,none⟩) 1 1,.slice (some ⟨w.heap.size + 1,0,none⟩) 2 2] 44)) [.int .i64 0] 3
  have h4 := Box.new ((((w.alloc (.cells #[.int .i64 (-1)] 3)).alloc (.cells #[.int .i64 1,.int .i64 1] 3)).alloc (.cells #[.int .i64 2,.slice (some ⟨w.heap.size,0,none⟩) 1 1,.slice (some ⟨w.heap.size + 1,0,none⟩) 2 2] 44)).alloc (.cells #[.int .i64 0] 3)) [.int .i64 1,.int .i64 1] 3
  have h5 := Box.new (((((w.alloc (.cells #[.int .i64 (-1)] 3)).alloc (.cells #[.int .i64 1,.int .i64 1] 3)).alloc (.cells #[.int .i64 2,.slice (some ⟨w.heap.size,0,none⟩) 1 1,.slice (some ⟨w.heap.size + 1,0,none⟩) 2 2] 44)).alloc (.cells #[.int .i64 0] 3)).alloc (.cells #[.int .i64 1,.int .i64 1] 3)) [.int .i64 2,.slice (some ⟨w.heap.size,0,none⟩) 1 1,.slice (some ⟨w.heap.size + 1,0,none⟩) 2 2,.int .i64 2,.slice (some ⟨w.heap.size + 1 + 1 + 1,0,none⟩) 1 1,.slice (some ⟨w.heap.size + 1 + 1 + 1 + 1,0,none⟩) 2 2] 44
  have h6 := Box.new ((((((w.alloc (.cells #[.int .i64 (-1)] 3)).alloc (.cells #[.int .i64 1,.int .i64 1] 3)).alloc (.cells #[.int .i64 2,.slice (some ⟨w.heap.size,0,none⟩) 1 1,.slice (some ⟨w.heap.size + 1,0,none⟩) 2 2] 44)).alloc (.cells #[.int .i64 0] 3)).alloc (.cells #[.int .i64 1,.int .i64 1] 3)).alloc (.cells #[.int .i64 2,.slice (some ⟨w.heap.size,0,none⟩) 1 1,.slice (some ⟨w.heap.size + 1,0,none⟩) 2 2,.int .i64 2,.slice (some ⟨w.heap.size + 1 + 1 + 1,0,none⟩) 1 1,.slice (some ⟨w.heap.size + 1 + 1 + 1 + 1,0,none⟩) 2 2] 44)) [.slice (some ⟨w.heap.size + 1 + 1 + 1 + 1 + 1,0,none⟩) 2 2,.int .i64 1] 24
  simp only [size_alloc] at h1 h2 h3 h4 h5 h6
  have b0 := below_new w (.cells #[.int .i64 (-1)] 3)
  have b1 := b0.alloc b0.size (.cells #[.int .i64 1,.int .i64 1] 3)
  have b2 := b1.alloc b1.size (.cells #[.int .i64 2,.slice (some ⟨w.heap.size,0,none⟩) 1 1,.slice (some ⟨w.heap.size + 1,0,none⟩) 2 2] 44)
  have b3 := b2.alloc b2.size (.cells #[.int .i64 0] 3)
  have b4 := b3.alloc b3.size (.cells #[.int .i64 1,.int .i64 1] 3)
  have b5 := b4.alloc b4.size (.cells #[.int .i64 2,.slice (some ⟨w.heap.size,0,none⟩) 1 1,.slice (some ⟨w.heap.size + 1,0,none⟩) 2 2,.int .i64 2,.slice (some ⟨w.heap.size + 1 + 1 + 1,0,none⟩) 1 1,.slice (some ⟨w.heap.size + 1 + 1 + 1 + 1,0,none⟩) 2 2] 44)
  have b6 := b5.alloc b5.size (.cells #[.slice (some ⟨w.heap.size + 1 + 1 + 1 + 1 + 1,0,none⟩) 2 2,.int .i64 1] 24)
  exact ⟨((((((h0.alloc _).alloc _).alloc _).alloc _).alloc _).alloc _),(((((h1.alloc _).alloc _).alloc _).alloc _).alloc _),((((h2.alloc _).alloc _).alloc _).alloc _),(((h3.alloc _).alloc _).alloc _),((h4.alloc _).alloc _),(h5.alloc _),h6,b6⟩
end Go.Proofs.YtaoamkbcegadcaaGreatDoor
/- Layer 19: what its laws stand on. (Printed by mk_yt.py.) -/
namespace Go.Proofs.YtaoamkbcegadcaaGreatDoor
open Go.RowKit Go.Bx Go.Od Go.Hp Go.ChangeShapes Go.WideShapes Go.ChangeAt
set_option linter.unusedVariables false

def CB (w W : World) (a b : Value) (r : Rc) (c : Cf) : Prop := Box W w.heap.size [a,b] ∧ Box W (w.heap.size + 1) (cl4 r) ∧ TB W (w.heap.size + 1 + 1) [.bool c.fuse,.bool c.al,.bool c.roi,.bool c.dam,.int .i64 c.room] 28 ∧ Below w.heap.size w W
theorem CB.new (w : World) (a b : Value) (r : Rc) (c : Cf) (t1 t2 : TypeId) : CB w (((w.alloc (.cells #[a,b] t1)).alloc (.cells (cs4 r.x0 r.y0 r.x1 r.y1) t2)).alloc (.cells #[.bool c.fuse,.bool c.al,.bool c.roi,.bool c.dam,.int .i64 c.room] 28)) a b r c := by
  have h0 := Box.new w [a,b] t1
  have h1 := Box.new (w.alloc (.cells #[a,b] t1)) (cl4 r) t2
  have h2 := TB.new ((w.alloc (.cells #[a,b] t1)).alloc (.cells (cs4 r.x0 r.y0 r.x1 r.y1) t2)) [.bool c.fuse,.bool c.al,.bool c.roi,.bool c.dam,.int .i64 c.room] 28
  simp only [size_alloc] at h1 h2
  have b0 := below_new w (.cells #[a,b] t1)
  have b1 := b0.alloc b0.size (.cells (cs4 r.x0 r.y0 r.x1 r.y1) t2)
  exact ⟨(h0.alloc _).alloc _,h1.alloc _,h2,b1.alloc b1.size _⟩
theorem CB.call {w W W' : World} {a b : Value} {r : Rc} {c : Cf} (h : CB w W a b r c) (hb : Below W.heap.size W W') : CB w W' a b r c := ⟨h.1.call hb,h.2.1.call hb,h.2.2.1.call hb,h.2.2.2.trans (hb.mono h.2.2.2.size)⟩
theorem CB.conf {w W : World} {a b : Value} {r : Rc} {c : Cf} (h : CB w W a b r c) : W.cell? ⟨w.heap.size + 1 + 1,0,none⟩ = some (.bool c.fuse) ∧ W.cell? ⟨w.heap.size + 1 + 1,1,none⟩ = some (.bool c.al) ∧ W.cell? ⟨w.heap.size + 1 + 1,2,none⟩ = some (.bool c.roi) ∧ W.cell? ⟨w.heap.size + 1 + 1,3,none⟩ = some (.bool c.dam) ∧ W.cell? ⟨w.heap.size + 1 + 1,4,none⟩ = some (.int .i64 c.room) ∧ ∀ k,W.frozen? ⟨w.heap.size + 1 + 1,k,none⟩ = false := ⟨h.2.2.1.box.cell 0 rfl,h.2.2.1.box.cell 1 rfl,h.2.2.1.box.cell 2 rfl,h.2.2.1.box.cell 3 rfl,h.2.2.1.box.cell 4 rfl,fun k => h.2.2.1.box.frozen k⟩
/-! ### how plans are made, handed in -/
section
variable {H : Type} {enc : TypeId × Value → H} {W : World} {base : Nat}
theorem rb19 : Reads enc Tryz.prog W 4 RBool := reads_bool Tryz.underlying4
theorem cells_bool : Tryz.prog.cellsOf 4 = 1 := by kernel_rfl
theorem cells_conf : Tryz.prog.cellsOf 28 = 5 := by kernel_rfl
theorem five_of {cs : Array Value} (hl : cs.toList.length = 5) : ∃ a b c d e,cs.toList = [a,b,c,d,e] := by
  match h : cs.toList,hl with
  | [a,b,c,d,e],_ => exact ⟨a,b,c,d,e,rfl⟩
theorem conf_arg {v : Value} {d : DataW H} {p : List MemPlace} (h : DataW.Trod enc Tryz.prog W 0 (fun _ => true) true 28 v d p) (hv : Value.okWide Tryz.prog W .any base 28 v) : ∃ c,v = cfv c := by
  obtain ⟨cs,rfl⟩ := arg_struct Tryz.underlying28 hv
  obtain ⟨fuel,hf⟩ := h
  have hl := struct_len Tryz.underlying28 hf
  obtain ⟨x0,h0⟩ := reads_field Tryz.underlying28 hf 0 (ft := 4) (off := 0) (n := 1) rfl cells_bool (E := RBool) rb19
  obtain ⟨x1,h1⟩ := reads_field Tryz.underlying28 hf 1 (ft := 4) (off := 1) (n := 1) rfl cells_bool (E := RBool) rb19
  obtain ⟨x2,h2⟩ := reads_field Tryz.underlying28 hf 2 (ft := 4) (off := 2) (n := 1) rfl cells_bool (E := RBool) rb19
  obtain ⟨x3,h3⟩ := reads_field Tryz.underlying28 hf 3 (ft := 4) (off := 3) (n := 1) rfl cells_bool (E := RBool) rb19
  obtain ⟨x4,h4⟩ := reads_field Tryz.underlying28 hf 4 (ft := 3) (off := 4) (n := 1) rfl cells_int (E := RInt) ri
  rw [cells_conf] at hl
  simp only [Value.cells] at hl h0 h1 h2 h3 h4
  obtain ⟨c0,c1,c2,c3,c4,hc⟩ := five_of hl
  rw [hc] at h0 h1 h2 h3 h4
  have e0 := h0
  have e1 := h1
  have e2 := h2
  have e3 := h3
  obtain ⟨e4,_⟩ := h4
  simp [RBool] at e0 e1 e2 e3 e4
  subst e0 e1 e2 e3 e4
  exact ⟨⟨x0,x1,x2,x3,x4⟩,by
    have : cs = #[.bool x0,.bool x1,.bool x2,.bool x3,.int .i64 x4] := by rw [← Array.toList_inj,hc]
    rw [this]⟩
theorem cells_rect : Tryz.prog.cellsOf 26 = 4 := by kernel_rfl
theorem four_of {cs : Array Value} (hl : cs.toList.length = 4) : ∃ a b c d,cs.toList = [a,b,c,d] := by
  match h : cs.toList,hl with
  | [a,b,c,d],_ => exact ⟨a,b,c,d,rfl⟩
theorem rect_arg {v : Value} {d : DataW H} {p : List MemPlace} (h : DataW.Trod enc Tryz.prog W 0 (fun _ => true) true 26 v d p) (hv : Value.okWide Tryz.prog W .any base 26 v) : ∃ r,v = rv r := by
  obtain ⟨cs,rfl⟩ := arg_struct Tryz.underlying26 hv
  obtain ⟨fuel,hf⟩ := h
  have hl := struct_len Tryz.underlying26 hf
  obtain ⟨x0,h0⟩ := reads_field Tryz.underlying26 hf 0 (ft := 3) (off := 0) (n := 1) rfl cells_int (E := RInt) ri
  obtain ⟨x1,h1⟩ := reads_field Tryz.underlying26 hf 1 (ft := 3) (off := 1) (n := 1) rfl cells_int (E := RInt) ri
  obtain ⟨x2,h2⟩ := reads_field Tryz.underlying26 hf 2 (ft := 3) (off := 2) (n := 1) rfl cells_int (E := RInt) ri
  obtain ⟨x3,h3⟩ := reads_field Tryz.underlying26 hf 3 (ft := 3) (off := 3) (n := 1) rfl cells_int (E := RInt) ri
  rw [cells_rect] at hl
  simp only [Value.cells] at hl h0 h1 h2 h3
  obtain ⟨c0,c1,c2,c3,hc⟩ := four_of hl
  rw [hc] at h0 h1 h2 h3
  obtain ⟨e0,_⟩ := h0
  obtain ⟨e1,_⟩ := h1
  obtain ⟨e2,_⟩ := h2
  obtain ⟨e3,_⟩ := h3
  simp at e0 e1 e2 e3
  subst e0 e1 e2 e3
  exact ⟨⟨x0,x1,x2,x3⟩,by
    have : cs = #[.int .i64 x0,.int .i64 x1,.int .i64 x2,.int .i64 x3] := by rw [← Array.toList_inj,hc]
    rw [this]⟩
end
end Go.Proofs.YtaoamkbcegadcaaGreatDoor
