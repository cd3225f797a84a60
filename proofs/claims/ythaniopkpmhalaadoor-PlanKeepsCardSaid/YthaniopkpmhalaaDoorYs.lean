/- Texts joined: XYs. -/
import Derived.Test.YthaniopkpmhalaaDoorYr
import Derived.Test.YthaniopkpmhalaaDoorAf
set_option maxRecDepth 4000
/- Layer 19: the law's own 'awake'. (Printed by mk_ys.py.) -/
namespace Go.Proofs.YthaniopkpmhalaaDoor
open Go.RowKit Go.Bx Go.Od Go.Hp
attribute [local go_sem ↓] Go.wp_at_zero Go.wp_at_succ
set_option linter.unusedVariables false

theorem conf_c (w : World) : Calls Tryd.prog 15 #[] w (PPost w (cfv cAll)) := by
  go_enter Tryd.func15, Tryd.ntmps15
  go_wp2_with fail
  have X := Box.new w [.bool true, .bool true, .bool true, .bool true, .int .i64 0] 28
  have hb := below_new w (.cells #[.bool true, .bool true, .bool true, .bool true, .int .i64 0] 28)
  have q0 := X.cell 0 rfl
  have q1 := X.cell 1 rfl
  have q2 := X.cell 2 rfl
  have q3 := X.cell 3 rfl
  have q4 := X.cell 4 rfl
  refine bodyPost_ret (v := cfv cAll) (by simp [results, Tryd.results15, go_sem, q0, q1, q2, q3, q4, cAll]) rfl ?_
  exact ⟨rfl, hb⟩
theorem TB.apart {W : World} {a b : Nat} {cs ds : List Value} {t u : TypeId} (h : TB W a cs t) (k : TB W b ds u) (hne : t ≠ u) : a ≠ b := fun e => by
  subst e
  unfold TB at h k
  rw [h] at k
  simp only [Option.some.injEq, Obj.cells.injEq] at k
  exact hne k.2.1
/-- the cells of the nodes -/
def clP (op : Int) (p q b c m : Nat) : List Value := [.int .i64 2, .slice (some ⟨p, 0, none⟩) 1 1, .slice (some ⟨q, 0, none⟩) 2 2, .int .i64 op, .slice (some ⟨b, 0, none⟩) 1 1, .slice (some ⟨c, 0, none⟩) m m]
theorem grP {W : World} {op : Int} {g p q b c m : Nat} {ps : List Int} {B : Nat} (hg : Box W g (clP op p q b c m)) (hp : Box W p ([-1].map (Value.int .i64))) (hq : Box W q ([1, 1].map (Value.int .i64))) (hb : Box W b ([0].map (Value.int .i64))) (hc : Box W c (ps.map (Value.int .i64))) (hm : m = ps.length) (hs : ∀ z ∈ ps, In64 z) (hm2 : m ≤ 100) (ho : In64 op) (hB : W.heap.size ≤ B) : Gr B W (.slice (some ⟨g, 0, none⟩) 2 2) (ndP op ps) := by
  have s1 : SlOf RInt 1 (· < B) W (.slice (some ⟨p, 0, none⟩) 1 1) [-1] := sl_box hp rfl (fun z hz => in_small (by simp at hz; omega)) (Nat.lt_of_lt_of_le hp.lt hB) (by decide)
  have s2 : SlOf RInt 1 (· < B) W (.slice (some ⟨q, 0, none⟩) 2 2) [1, 1] := sl_box hq rfl (fun z hz => in_small (by simp at hz; omega)) (Nat.lt_of_lt_of_le hq.lt hB) (by decide)
  have s3 : SlOf RInt 1 (· < B) W (.slice (some ⟨b, 0, none⟩) 1 1) [0] := sl_box hb rfl (fun z hz => in_small (by simp at hz; omega)) (Nat.lt_of_lt_of_le hb.lt hB) (by decide)
  have s4 : SlOf RInt 1 (· < B) W (.slice (some ⟨c, 0, none⟩) m m) ps := sl_box hc hm hs (Nat.lt_of_lt_of_le hc.lt hB) (by unfold maxLen; omega)
  refine ⟨_, 2, rfl, Nat.le_refl _, by decide, .inr ⟨g, 0, rfl, Nat.lt_of_lt_of_le hg.lt hB, fun i x' hi => ?_⟩⟩
  match i, hi with
  | 0, hi =>
    simp [ndP] at hi; subst hi
    exact ⟨_, rfl, lies3 hg 0 rfl rfl rfl, _, _, rfl, in_small (x := 2) (by decide), s1, s2⟩
  | 1, hi =>
    simp [ndP] at hi; subst hi
    exact ⟨_, rfl, lies3 hg 3 rfl rfl rfl, _, _, rfl, ho, s3, hm ▸ s4⟩
  | i + 2, hi => simp [ndP] at hi
/-- what 'h := ..' yields -/
def HR (n p q : Nat) (i : Nat) (v : Value) (W : World) : Prop := match i with
  | 1 => ∃ b, v = .slice (some ⟨b, 0, none⟩) 1 1 ∧ n ≤ b ∧ Box W b ([0].map (Value.int .i64))
  | 2 => ∃ b, v = .slice (some ⟨b, 0, none⟩) 20 20 ∧ n ≤ b ∧ Box W b ((List.replicate 20 0).map (Value.int .i64))
  | 3 => ∃ b c, v = .agg #[.int .i64 5, .slice (some ⟨b, 0, none⟩) 1 1, .slice (some ⟨c, 0, none⟩) 20 20] ∧ n ≤ b ∧ n ≤ c ∧ Box W b ([0].map (Value.int .i64)) ∧ Box W c ((List.replicate 20 0).map (Value.int .i64))
  | 4 => ∃ g b c, v = .slice (some ⟨g, 0, none⟩) 2 2 ∧ n ≤ g ∧ n ≤ b ∧ n ≤ c ∧ Box W g (clP 5 p q b c 20) ∧ Box W b ([0].map (Value.int .i64)) ∧ Box W c ((List.replicate 20 0).map (Value.int .i64))
  | 5 => ∃ g b c, v = .agg #[.slice (some ⟨g, 0, none⟩) 2 2, .int .i64 1] ∧ n ≤ g ∧ n ≤ b ∧ n ≤ c ∧ Box W g (clP 5 p q b c 20) ∧ Box W b ([0].map (Value.int .i64)) ∧ Box W c ((List.replicate 20 0).map (Value.int .i64))
  | 6 => ∃ g, v = .pointer (some ⟨g, 0, none⟩) ∧ n ≤ g ∧ Box W g [.slice none 0 0, .int .i64 0]
  | _ => True
theorem HR.stab {n p q : Nat} (i : Nat) (v : Value) (W W' : World) (h : HR n p q i v W) (hb : Below W.heap.size W W') : HR n p q i v W' := by
  unfold HR at h ⊢
  split at h
  · obtain ⟨b, h1, h2, h3⟩ := h; exact ⟨b, h1, h2, h3.call hb⟩
  · obtain ⟨b, h1, h2, h3⟩ := h; exact ⟨b, h1, h2, h3.call hb⟩
  · obtain ⟨b, c, h1, h2, h3, h4, h5⟩ := h; exact ⟨b, c, h1, h2, h3, h4.call hb, h5.call hb⟩
  · obtain ⟨g, b, c, h1, h2, h3, h4, h5, h6, h7⟩ := h; exact ⟨g, b, c, h1, h2, h3, h4, h5.call hb, h6.call hb, h7.call hb⟩
  · obtain ⟨g, b, c, h1, h2, h3, h4, h5, h6, h7⟩ := h; exact ⟨g, b, c, h1, h2, h3, h4, h5.call hb, h6.call hb, h7.call hb⟩
  · obtain ⟨b, h1, h2, h3⟩ := h; exact ⟨b, h1, h2, h3.call hb⟩
  · trivial
/-- what 'a := plan.Make(..)' yields -/
def PR1 (n : Nat) (ps : List Ps) (src : Rc) (sn pk : Int) (i : Nat) (v : Value) (W : World) : Prop := match i with
  | 3 => ∃ pl pv, v = .agg #[pv, .int .i64 src.x0, .int .i64 src.y0, .int .i64 src.x1, .int .i64 src.y1, .int .i64 sn, .int .i64 pk] ∧ psl pl = ps ∧ PR n pl pv W
  | 4 => ∃ q, v = .pointer (some ⟨q, 0, none⟩) ∧ n ≤ q ∧ TB W q [.slice none 0 0, .int .i64 0, .int .i64 0, .int .i64 0, .int .i64 0, .int .i64 0, .int .i64 0] 33
  | _ => True
theorem PR1.stab {n : Nat} {ps : List Ps} {src : Rc} {sn pk : Int} (i : Nat) (v : Value) (W W' : World) (h : PR1 n ps src sn pk i v W) (hb : Below W.heap.size W W') : PR1 n ps src sn pk i v W' := by
  unfold PR1 at h ⊢
  split at h
  · obtain ⟨pl, pv, h1, h2, h3⟩ := h; exact ⟨pl, pv, h1, h2, h3.call hb⟩
  · obtain ⟨q, h1, h2, h3⟩ := h; exact ⟨q, h1, h2, h3.call hb⟩
  · trivial
/-- a plan in a variable -/
def PV (n q : Nat) (ps : List Ps) (src : Rc) (sn pk : Int) (pl : List (Value × Value × Ps)) (pv : Value) (W : World) : Prop := TB W q [pv, .int .i64 src.x0, .int .i64 src.y0, .int .i64 src.x1, .int .i64 src.y1, .int .i64 sn, .int .i64 pk] 33 ∧ psl pl = ps ∧ PR n pl pv W
theorem PV.call {n q : Nat} {ps : List Ps} {src : Rc} {sn pk : Int} {pl : List (Value × Value × Ps)} {pv : Value} {W W' : World} (h : PV n q ps src sn pk pl pv W) (hb : Below W.heap.size W W') : PV n q ps src sn pk pl pv W' := ⟨h.1.call hb, h.2.1, h.2.2.call hb⟩
theorem PV.made {n q : Nat} {ps : List Ps} {src : Rc} {sn pk : Int} {pl : List (Value × Value × Ps)} {pv : Value} {W : World} (h : TB W q [.slice none 0 0, .int .i64 0, .int .i64 0, .int .i64 0, .int .i64 0, .int .i64 0, .int .i64 0] 33) (hp : PR n pl pv W) (hs : psl pl = ps) : PV n q ps src sn pk pl pv (((((((W.setCell ⟨q, 0, none⟩ (pv)).setCell ⟨q, 1, none⟩ (.int .i64 src.x0)).setCell ⟨q, 2, none⟩ (.int .i64 src.y0)).setCell ⟨q, 3, none⟩ (.int .i64 src.x1)).setCell ⟨q, 4, none⟩ (.int .i64 src.y1)).setCell ⟨q, 5, none⟩ (.int .i64 sn)).setCell ⟨q, 6, none⟩ (.int .i64 pk)) := by
  have h1 := h.put 0 pv
  have h2 := h1.put 1 (.int .i64 src.x0)
  have h3 := h2.put 2 (.int .i64 src.y0)
  have h4 := h3.put 3 (.int .i64 src.x1)
  have h5 := h4.put 4 (.int .i64 src.y1)
  have h6 := h5.put 5 (.int .i64 sn)
  have h7 := h6.put 6 (.int .i64 pk)
  have st : ∀ (W : World) (cs : List Value), TB W q cs 33 → PR n pl pv W → ∀ k v, PR n pl pv (W.setCell ⟨q, k, none⟩ v) := fun W cs ht hp k v => ⟨row_keep hp.1 (own_apartM hp.1 ht (by decide)) v, fun x hx => ⟨row_keep (hp.2 x hx).1 (own_apartM (hp.2 x hx).1 ht (by decide)) v, row_keep (hp.2 x hx).2 (own_apartM (hp.2 x hx).2 ht (by decide)) v⟩⟩
  exact ⟨h7, hs, st _ _ h6 (st _ _ h5 (st _ _ h4 (st _ _ h3 (st _ _ h2 (st _ _ h1 (st _ _ h hp _ _) _ _) _ _) _ _) _ _) _ _) _ _⟩
theorem awP (w : World) : Box (((((((w.alloc (.cells #[.int .i64 (-1)] 3)).alloc (.cells #[.int .i64 1, .int .i64 1] 3)).alloc (.cells #[.int .i64 2, .slice (some ⟨w.heap.size, 0, none⟩) 1 1, .slice (some ⟨w.heap.size + 1, 0, none⟩) 2 2] 44)).alloc (.cells #[.int .i64 0] 3)).alloc (.cells #[.int .i64 1, .int .i64 1] 3)).alloc (.cells #[.int .i64 2, .slice (some ⟨w.heap.size, 0, none⟩) 1 1, .slice (some ⟨w.heap.size + 1, 0, none⟩) 2 2, .int .i64 2, .slice (some ⟨w.heap.size + 1 + 1 + 1, 0, none⟩) 1 1, .slice (some ⟨w.heap.size + 1 + 1 + 1 + 1, 0, none⟩) 2 2] 44)).alloc (.cells #[.slice (some ⟨w.heap.size + 1 + 1 + 1 + 1 + 1, 0, none⟩) 2 2, .int .i64 1] 24)) (w.heap.size) ([-1].map (Value.int .i64)) ∧ Box (((((((w.alloc (.cells #[.int .i64 (-1)] 3)).alloc (.cells #[.int .i64 1, .int .i64 1] 3)).alloc (.cells #[.int .i64 2, .slice (some ⟨w.heap.size, 0, none⟩) 1 1, .slice (some ⟨w.heap.size + 1, 0, none⟩) 2 2] 44)).alloc (.cells #[.int .i64 0] 3)).alloc (.cells #[.int .i64 1, .int .i64 1] 3)).alloc (.cells #[.int .i64 2, .slice (some ⟨w.heap.size, 0, none⟩) 1 1, .slice (some ⟨w.heap.size + 1, 0, none⟩) 2 2, .int .i64 2, .slice (some ⟨w.heap.size + 1 + 1 + 1, 0, none⟩) 1 1, .slice (some ⟨w.heap.size + 1 + 1 + 1 + 1, 0, none⟩) 2 2] 44)).alloc (.cells #[.slice (some ⟨w.heap.size + 1 + 1 + 1 + 1 + 1, 0, none⟩) 2 2, .int .i64 1] 24)) (w.heap.size + 1) ([1, 1].map (Value.int .i64)) ∧ Box (((((((w.alloc (.cells #[.int .i64 (-1)] 3)).alloc (.cells #[.int .i64 1, .int .i64 1] 3)).alloc (.cells #[.int .i64 2, .slice (some ⟨w.heap.size, 0, none⟩) 1 1, .slice (some ⟨w.heap.size + 1, 0, none⟩) 2 2] 44)).alloc (.cells #[.int .i64 0] 3)).alloc (.cells #[.int .i64 1, .int .i64 1] 3)).alloc (.cells #[.int .i64 2, .slice (some ⟨w.heap.size, 0, none⟩) 1 1, .slice (some ⟨w.heap.size + 1, 0, none⟩) 2 2, .int .i64 2, .slice (some ⟨w.heap.size + 1 + 1 + 1, 0, none⟩) 1 1, .slice (some ⟨w.heap.size + 1 + 1 + 1 + 1, 0, none⟩) 2 2] 44)).alloc (.cells #[.slice (some ⟨w.heap.size + 1 + 1 + 1 + 1 + 1, 0, none⟩) 2 2, .int .i64 1] 24)) (w.heap.size + 1 + 1) [.int .i64 2, .slice (some ⟨w.heap.size, 0, none⟩) 1 1, .slice (some ⟨w.heap.size + 1, 0, none⟩) 2 2] ∧ Box (((((((w.alloc (.cells #[.int .i64 (-1)] 3)).alloc (.cells #[.int .i64 1, .int .i64 1] 3)).alloc (.cells #[.int .i64 2, .slice (some ⟨w.heap.size, 0, none⟩) 1 1, .slice (some ⟨w.heap.size + 1, 0, none⟩) 2 2] 44)).alloc (.cells #[.int .i64 0] 3)).alloc (.cells #[.int .i64 1, .int .i64 1] 3)).alloc (.cells #[.int .i64 2, .slice (some ⟨w.heap.size, 0, none⟩) 1 1, .slice (some ⟨w.heap.size + 1, 0, none⟩) 2 2, .int .i64 2, .slice (some ⟨w.heap.size + 1 + 1 + 1, 0, none⟩) 1 1, .slice (some ⟨w.heap.size + 1 + 1 + 1 + 1, 0, none⟩) 2 2] 44)).alloc (.cells #[.slice (some ⟨w.heap.size + 1 + 1 + 1 + 1 + 1, 0, none⟩) 2 2, .int .i64 1] 24)) (w.heap.size + 1 + 1 + 1) ([0].map (Value.int .i64)) ∧ Box (((((((w.alloc (.cells #[.int .i64 (-1)] 3)).alloc (.cells #[.int .i64 1, .int .i64 1] 3)).alloc (.cells #[.int .i64 2, .slice (some ⟨w.heap.size, 0, none⟩) 1 1, .slice (some ⟨w.heap.size + 1, 0, none⟩) 2 2] 44)).alloc (.cells #[.int .i64 0] 3)).alloc (.cells #[.int .i64 1, .int .i64 1] 3)).alloc (.cells #[.int .i64 2, .slice (some ⟨w.heap.size, 0, none⟩) 1 1, .slice (some ⟨w.heap.size + 1, 0, none⟩) 2 2, .int .i64 2, .slice (some ⟨w.heap.size + 1 + 1 + 1, 0, none⟩) 1 1, .slice (some ⟨w.heap.size + 1 + 1 + 1 + 1, 0, none⟩) 2 2] 44)).alloc (.cells #[.slice (some ⟨w.heap.size + 1 + 1 + 1 + 1 + 1, 0, none⟩) 2 2, .int .i64 1] 24)) (w.heap.size + 1 + 1 + 1 + 1) ([1, 1].map (Value.int .i64)) ∧ Box (((((((w.alloc (.cells #[.int .i64 (-1)] 3)).alloc (.cells #[.int .i64 1, .int .i64 1] 3)).alloc (.cells #[.int .i64 2, .slice (some ⟨w.heap.size, 0, none⟩) 1 1, .slice (some ⟨w.heap.size + 1, 0, none⟩) 2 2] 44)).alloc (.cells #[.int .i64 0] 3)).alloc (.cells #[.int .i64 1, .int .i64 1] 3)).alloc (.cells #[.int .i64 2, .slice (some ⟨w.heap.size, 0, none⟩) 1 1, .slice (some ⟨w.heap.size + 1, 0, none⟩) 2 2, .int .i64 2, .slice (some ⟨w.heap.size + 1 + 1 + 1, 0, none⟩) 1 1, .slice (some ⟨w.heap.size + 1 + 1 + 1 + 1, 0, none⟩) 2 2] 44)).alloc (.cells #[.slice (some ⟨w.heap.size + 1 + 1 + 1 + 1 + 1, 0, none⟩) 2 2, .int .i64 1] 24)) (w.heap.size + 1 + 1 + 1 + 1 + 1) (clP 2 (w.heap.size) (w.heap.size + 1) (w.heap.size + 1 + 1 + 1) (w.heap.size + 1 + 1 + 1 + 1) 2) ∧ Box (((((((w.alloc (.cells #[.int .i64 (-1)] 3)).alloc (.cells #[.int .i64 1, .int .i64 1] 3)).alloc (.cells #[.int .i64 2, .slice (some ⟨w.heap.size, 0, none⟩) 1 1, .slice (some ⟨w.heap.size + 1, 0, none⟩) 2 2] 44)).alloc (.cells #[.int .i64 0] 3)).alloc (.cells #[.int .i64 1, .int .i64 1] 3)).alloc (.cells #[.int .i64 2, .slice (some ⟨w.heap.size, 0, none⟩) 1 1, .slice (some ⟨w.heap.size + 1, 0, none⟩) 2 2, .int .i64 2, .slice (some ⟨w.heap.size + 1 + 1 + 1, 0, none⟩) 1 1, .slice (some ⟨w.heap.size + 1 + 1 + 1 + 1, 0, none⟩) 2 2] 44)).alloc (.cells #[.slice (some ⟨w.heap.size + 1 + 1 + 1 + 1 + 1, 0, none⟩) 2 2, .int .i64 1] 24)) (w.heap.size + 1 + 1 + 1 + 1 + 1 + 1) [.slice (some ⟨w.heap.size + 1 + 1 + 1 + 1 + 1, 0, none⟩) 2 2, .int .i64 1] ∧ Below w.heap.size w (((((((w.alloc (.cells #[.int .i64 (-1)] 3)).alloc (.cells #[.int .i64 1, .int .i64 1] 3)).alloc (.cells #[.int .i64 2, .slice (some ⟨w.heap.size, 0, none⟩) 1 1, .slice (some ⟨w.heap.size + 1, 0, none⟩) 2 2] 44)).alloc (.cells #[.int .i64 0] 3)).alloc (.cells #[.int .i64 1, .int .i64 1] 3)).alloc (.cells #[.int .i64 2, .slice (some ⟨w.heap.size, 0, none⟩) 1 1, .slice (some ⟨w.heap.size + 1, 0, none⟩) 2 2, .int .i64 2, .slice (some ⟨w.heap.size + 1 + 1 + 1, 0, none⟩) 1 1, .slice (some ⟨w.heap.size + 1 + 1 + 1 + 1, 0, none⟩) 2 2] 44)).alloc (.cells #[.slice (some ⟨w.heap.size + 1 + 1 + 1 + 1 + 1, 0, none⟩) 2 2, .int .i64 1] 24)) := by
  have h0 := Box.new w [.int .i64 (-1)] 3
  have h1 := Box.new (w.alloc (.cells #[.int .i64 (-1)] 3)) [.int .i64 1, .int .i64 1] 3
  have h2 := Box.new ((w.alloc (.cells #[.int .i64 (-1)] 3)).alloc (.cells #[.int .i64 1, .int .i64 1] 3)) [.int .i64 2, .slice (some ⟨w.heap.size, 0, none⟩) 1 1, .slice (some ⟨w.heap.size + 1, 0, none⟩) 2 2] 44
  have h3 := Box.new (((w.alloc (.cells #[.int .i64 (-1)] 3)).alloc (.cells #[.int .i64 1, .int .i64 1] 3)).alloc (.cells #[.int .i64 2, .slice (some ⟨w.heap.size, 0, none⟩) 1 1, .slice (some ⟨w.heap.size + 1, 0, none⟩) 2 2] 44)) [.int .i64 0] 3
  have h4 := Box.new ((((w.alloc (.cells #[.int .i64 (-1)] 3)).alloc (.cells #[.int .i64 1, .int .i64 1] 3)).alloc (.cells #[.int .i64 2, .slice (some ⟨w.heap.size, 0, none⟩) 1 1, .slice (some ⟨w.heap.size + 1, 0, none⟩) 2 2] 44)).alloc (.cells #[.int .i64 0] 3)) [.int .i64 1, .int .i64 1] 3
  have h5 := Box.new (((((w.alloc (.cells #[.int .i64 (-1)] 3)).alloc (.cells #[.int .i64 1, .int .i64 1] 3)).alloc (.cells #[.int .i64 2, .slice (some ⟨w.heap.size, 0, none⟩) 1 1, .slice (some ⟨w.heap.size + 1, 0, none⟩) 2 2] 44)).alloc (.cells #[.int .i64 0] 3)).alloc (.cells #[.int .i64 1, .int .i64 1] 3)) [.int .i64 2, .slice (some ⟨w.heap.size, 0, none⟩) 1 1, .slice (some ⟨w.heap.size + 1, 0, none⟩) 2 2, .int .i64 2, .slice (some ⟨w.heap.size + 1 + 1 + 1, 0, none⟩) 1 1, .slice (some ⟨w.heap.size + 1 + 1 + 1 + 1, 0, none⟩) 2 2] 44
  have h6 := Box.new ((((((w.alloc (.cells #[.int .i64 (-1)] 3)).alloc (.cells #[.int .i64 1, .int .i64 1] 3)).alloc (.cells #[.int .i64 2, .slice (some ⟨w.heap.size, 0, none⟩) 1 1, .slice (some ⟨w.heap.size + 1, 0, none⟩) 2 2] 44)).alloc (.cells #[.int .i64 0] 3)).alloc (.cells #[.int .i64 1, .int .i64 1] 3)).alloc (.cells #[.int .i64 2, .slice (some ⟨w.heap.size, 0, none⟩) 1 1, .slice (some ⟨w.heap.size + 1, 0, none⟩) 2 2, .int .i64 2, .slice (some ⟨w.heap.size + 1 + 1 + 1, 0, none⟩) 1 1, .slice (some ⟨w.heap.size + 1 + 1 + 1 + 1, 0, none⟩) 2 2] 44)) [.slice (some ⟨w.heap.size + 1 + 1 + 1 + 1 + 1, 0, none⟩) 2 2, .int .i64 1] 24
  simp only [size_alloc] at h1 h2 h3 h4 h5 h6
  have b0 := below_new w (.cells #[.int .i64 (-1)] 3)
  have b1 := b0.alloc b0.size (.cells #[.int .i64 1, .int .i64 1] 3)
  have b2 := b1.alloc b1.size (.cells #[.int .i64 2, .slice (some ⟨w.heap.size, 0, none⟩) 1 1, .slice (some ⟨w.heap.size + 1, 0, none⟩) 2 2] 44)
  have b3 := b2.alloc b2.size (.cells #[.int .i64 0] 3)
  have b4 := b3.alloc b3.size (.cells #[.int .i64 1, .int .i64 1] 3)
  have b5 := b4.alloc b4.size (.cells #[.int .i64 2, .slice (some ⟨w.heap.size, 0, none⟩) 1 1, .slice (some ⟨w.heap.size + 1, 0, none⟩) 2 2, .int .i64 2, .slice (some ⟨w.heap.size + 1 + 1 + 1, 0, none⟩) 1 1, .slice (some ⟨w.heap.size + 1 + 1 + 1 + 1, 0, none⟩) 2 2] 44)
  have b6 := b5.alloc b5.size (.cells #[.slice (some ⟨w.heap.size + 1 + 1 + 1 + 1 + 1, 0, none⟩) 2 2, .int .i64 1] 24)
  exact ⟨((((((h0.alloc _).alloc _).alloc _).alloc _).alloc _).alloc _), (((((h1.alloc _).alloc _).alloc _).alloc _).alloc _), ((((h2.alloc _).alloc _).alloc _).alloc _), (((h3.alloc _).alloc _).alloc _), ((h4.alloc _).alloc _), (h5.alloc _), h6, b6⟩
/-- what the first statements leave -/
def AwH (w W7 : World) (p0 q0 z2 z3 z4 z5 z6 g b c gg : Nat) (W : World) : Prop := Box W p0 ([-1].map (Value.int .i64)) ∧ Box W q0 ([1, 1].map (Value.int .i64)) ∧ Box W z3 ([0].map (Value.int .i64)) ∧ Box W z4 ([1, 1].map (Value.int .i64)) ∧ Box W z5 (clP 2 p0 q0 z3 z4 2) ∧ Box W z6 [.slice (some ⟨z5, 0, none⟩) 2 2, .int .i64 1] ∧ Below w.heap.size w W ∧ Box W gg [.slice (some ⟨g, 0, none⟩) 2 2, .int .i64 1] ∧ Box W g (clP 5 p0 q0 b c 20) ∧ Box W b ([0].map (Value.int .i64)) ∧ Box W c ((List.replicate 20 0).map (Value.int .i64))
theorem AwH.call {w W7 W W' : World} {p0 q0 z2 z3 z4 z5 z6 g b c gg : Nat} (h : AwH w W7 p0 q0 z2 z3 z4 z5 z6 g b c gg W) (hb : Below W.heap.size W W') : AwH w W7 p0 q0 z2 z3 z4 z5 z6 g b c gg W' := by
  obtain ⟨a0, a1, a2, a3, a4, a5, a6, a7, a8, a9, a10⟩ := h
  exact ⟨a0.call hb, a1.call hb, a2.call hb, a3.call hb, a4.call hb, a5.call hb, a6.trans (hb.mono a6.size), a7.call hb, a8.call hb, a9.call hb, a10.call hb⟩
theorem AwH.gr1 {w W7 W : World} {p0 q0 z2 z3 z4 z5 z6 g b c gg : Nat} (h : AwH w W7 p0 q0 z2 z3 z4 z5 z6 g b c gg W) : Gr W.heap.size W (.slice (some ⟨z5, 0, none⟩) 2 2) (ndP 2 [1, 1]) := by
  obtain ⟨a0, a1, a2, a3, a4, a5, a6, a7, a8, a9, a10⟩ := h
  exact grP a4 a0 a1 a2 a3 rfl (fun z hz => in_small (by simp at hz; omega)) (by decide) (in_small (by decide)) (Nat.le_refl _)
theorem AwH.gr2 {w W7 W : World} {p0 q0 z2 z3 z4 z5 z6 g b c gg : Nat} (h : AwH w W7 p0 q0 z2 z3 z4 z5 z6 g b c gg W) : Gr W.heap.size W (.slice (some ⟨g, 0, none⟩) 2 2) (ndP 5 (List.replicate 20 0)) := by
  obtain ⟨a0, a1, a2, a3, a4, a5, a6, a7, a8, a9, a10⟩ := h
  exact grP a8 a0 a1 a9 a10 rfl (fun z hz => in_small (by have := List.eq_of_mem_replicate hz; omega)) (by decide) (in_small (by decide)) (Nat.le_refl _)
set_option maxRecDepth 10000 in
set_option maxHeartbeats 6400000 in
theorem awake19_c (w : World) : Calls Tryd.prog 7 #[] w (PPost w (.bool true)) := by
  have H7' := awP w
  go_enter Tryd.func7, Tryd.ntmps7
  go_wp2_with fail
  rename_i K hK
  obtain ⟨p0, hp0⟩ : ∃ z, z = w.heap.size := ⟨_, rfl⟩
  obtain ⟨q0, hq0⟩ : ∃ z, z = w.heap.size + 1 := ⟨_, rfl⟩
  obtain ⟨z2, hz2⟩ : ∃ z, z = w.heap.size + 1 + 1 := ⟨_, rfl⟩
  obtain ⟨z3, hz3⟩ : ∃ z, z = w.heap.size + 1 + 1 + 1 := ⟨_, rfl⟩
  obtain ⟨z4, hz4⟩ : ∃ z, z = w.heap.size + 1 + 1 + 1 + 1 := ⟨_, rfl⟩
  obtain ⟨z5, hz5⟩ : ∃ z, z = w.heap.size + 1 + 1 + 1 + 1 + 1 := ⟨_, rfl⟩
  obtain ⟨z6, hz6⟩ : ∃ z, z = w.heap.size + 1 + 1 + 1 + 1 + 1 + 1 := ⟨_, rfl⟩
  obtain ⟨W7, hW7⟩ : ∃ W, W = (((((((w.alloc (.cells #[.int .i64 (-1)] 3)).alloc (.cells #[.int .i64 1, .int .i64 1] 3)).alloc (.cells #[.int .i64 2, .slice (some ⟨w.heap.size, 0, none⟩) 1 1, .slice (some ⟨w.heap.size + 1, 0, none⟩) 2 2] 44)).alloc (.cells #[.int .i64 0] 3)).alloc (.cells #[.int .i64 1, .int .i64 1] 3)).alloc (.cells #[.int .i64 2, .slice (some ⟨w.heap.size, 0, none⟩) 1 1, .slice (some ⟨w.heap.size + 1, 0, none⟩) 2 2, .int .i64 2, .slice (some ⟨w.heap.size + 1 + 1 + 1, 0, none⟩) 1 1, .slice (some ⟨w.heap.size + 1 + 1 + 1 + 1, 0, none⟩) 2 2] 44)).alloc (.cells #[.slice (some ⟨w.heap.size + 1 + 1 + 1 + 1 + 1, 0, none⟩) 2 2, .int .i64 1] 24)) := ⟨_, rfl⟩
  rw [← hW7] at H7' ⊢
  rw [← hz6, ← hz5, ← hz4, ← hz3, ← hz2, ← hq0] at H7' ⊢
  have H7 : Hid (Box W7 p0 ([-1].map (Value.int .i64)) ∧ Box W7 q0 ([1, 1].map (Value.int .i64)) ∧ Box W7 z2 [.int .i64 2, .slice (some ⟨p0, 0, none⟩) 1 1, .slice (some ⟨q0, 0, none⟩) 2 2] ∧ Box W7 z3 ([0].map (Value.int .i64)) ∧ Box W7 z4 ([1, 1].map (Value.int .i64)) ∧ Box W7 z5 (clP 2 p0 q0 z3 z4 2) ∧ Box W7 z6 [.slice (some ⟨z5, 0, none⟩) 2 2, .int .i64 1] ∧ Below w.heap.size w W7) := by rw [hp0]; exact H7'
  rw [← hp0]
  clear H7' hW7 hp0 hq0 hz2 hz3 hz4 hz5 hz6
  obtain ⟨n1, hn1⟩ : ∃ n, n = W7.heap.size := ⟨_, rfl⟩
  have HN1 : Hid (n1 ≤ W7.heap.size) := Nat.le_of_eq hn1
  have HN1b : Hid (W7.heap.size ≤ n1) := Nat.le_of_eq hn1.symm
  clear hn1
  refine wp_region_mono (QT [.agg #[.int .i64 2, .slice (some ⟨p0, 0, none⟩) 1 1, .slice (some ⟨q0, 0, none⟩) 2 2]] [1, 2, 3, 4, 5, 6] (HR n1 p0 q0)) 7 _ rfl rfl (by kernel_rfl) (by kernel_rfl) (QT.stab HR.stab) ?hop ?hlast
  case hop =>
    refine Each.get (n := 7) ⟨⟨⟨⟨⟨⟨⟨trivial, ?h0⟩, ?h1⟩, ?h2⟩, ?h3⟩, ?h4⟩, ?h5⟩, ?h6⟩
    case h0 =>
      refine OpOk.plain (by kernel_rfl) _ rfl rfl fun vs ev W hf hb hd => ?_
      have e0 : ev (.tmp 1) = .pointer (some ⟨z2, 0, none⟩) := hf.off 1 rfl
      have d0 := (H7.out.2.2.1.call hb).cell 0 rfl
      have d1 := (H7.out.2.2.1.call hb).cell 1 rfl
      have d2 := (H7.out.2.2.1.call hb).cell 2 rfl
      clear hK
      exact gives_mono (R := fun v w' => v = .agg #[.int .i64 2, .slice (some ⟨p0, 0, none⟩) 1 1, .slice (some ⟨q0, 0, none⟩) 2 2] ∧ w' = W) (by simp [gives, go_sem, e0, d0, d1, d2]) fun _ _ ⟨h1, h2⟩ => by subst h2; exact ⟨.inr ⟨by decide, h1⟩, Below.refl _ _⟩
    case h1 =>
      refine OpOk.plain (by kernel_rfl) _ rfl rfl fun vs ev W hf hb hd => ?_
      clear hK
      refine gives_mono (R := fun v w' => v = .slice (some ⟨W.heap.size, 0, none⟩) 1 1 ∧ w' = W.alloc (.cells #[.int .i64 0] 3)) (by simp [gives, go_sem, hf.const]) ?_
      rintro _ _ ⟨rfl, rfl⟩
      exact ⟨.inl ⟨by decide, _, rfl, Nat.le_trans HN1.out hb.size, Box.new W _ _⟩, below_alloc _ _⟩
    case h2 =>
      refine OpOk.plain (by kernel_rfl) _ rfl rfl fun vs ev W hf hb hd => ?_
      clear hK
      obtain ⟨i3, hi3, hz0, hz1, hz2⟩ := info_parts infoI
      obtain ⟨w', hrun, r1, r2⟩ := run_make_full (P := Tryd.prog) W 0 35 3 i3 (.int .i64 0) 1 Tryd.underlying35 hi3 hz0 hz1 .i64 .i64 20 (by rw [hz2]; decide) (by decide) (Nat.zero_le _)
      have hrun' : (Instr.makeSlice 35 (.int .i64 20) (.int .i64 20)).run Tryd.prog W = .ok (.slice (some ⟨W.heap.size, 0, none⟩) 20 20) w' := hrun
      refine gives_mono (R := fun v w'' => v = .slice (some ⟨W.heap.size, 0, none⟩) 20 20 ∧ w'' = w') (by unfold gives; simp [execOp, hf.const, hrun', Result.andThen]) ?_
      rintro _ _ ⟨rfl, rfl⟩
      refine ⟨.inl ⟨by decide, _, rfl, Nat.le_trans HN1.out hb.size, ?_⟩, (Below.refl _ _).grown r2 (Nat.le_refl _) fun k hk => by cases hk⟩
      have e : (madeCells (Value.int .i64 0).cells (20 * 1)).toList = (List.replicate 20 0).map (Value.int .i64) := by kernel_rfl
      have := box_own r1
      rw [e] at this
      exact this
    case h3 =>
      refine OpOk.plain (by kernel_rfl) _ rfl rfl fun vs ev W hf hb hd => ?_
      obtain ⟨b, h1, h2, h3⟩ := (hd 1 (by kernel_rfl)).spec (by decide)
      obtain ⟨c, h4, h5, h6⟩ := (hd 2 (by kernel_rfl)).spec (by decide)
      have e1 := (hf.of 1 _ 17 rfl rfl rfl (of_decide_eq_true rfl)).trans h1
      have e2 := (hf.of 2 _ 18 rfl rfl rfl (of_decide_eq_true rfl)).trans h4
      clear hK
      refine gives_mono (R := fun v w' => v = .agg #[.int .i64 5, .slice (some ⟨b, 0, none⟩) 1 1, .slice (some ⟨c, 0, none⟩) 20 20] ∧ w' = W) (by simp [gives, go_sem, e1, e2, hf.const]) ?_
      rintro _ _ ⟨rfl, rfl⟩
      exact ⟨.inl ⟨by decide, b, c, rfl, h2, h5, h3, h6⟩, Below.refl _ _⟩
    case h4 =>
      refine OpOk.plain (by kernel_rfl) _ rfl rfl fun vs ev W hf hb hd => ?_
      have e0 : ev (.tmp 16) = .agg #[.int .i64 2, .slice (some ⟨p0, 0, none⟩) 1 1, .slice (some ⟨q0, 0, none⟩) 2 2] := (hf.of 0 _ 16 rfl rfl rfl (of_decide_eq_true rfl)).trans ((hd 0 (by kernel_rfl)).val (by decide))
      obtain ⟨b, c, h1, h2, h3, h4, h5⟩ := (hd 3 (by kernel_rfl)).spec (by decide)
      have e1 := (hf.of 3 _ 19 rfl rfl rfl (of_decide_eq_true rfl)).trans h1
      clear hK
      refine gives_mono (R := fun v w' => v = .slice (some ⟨W.heap.size, 0, none⟩) 2 2 ∧ w' = W.alloc (.cells (clP 5 p0 q0 b c 20).toArray 44)) (by simp [gives, go_sem, e0, e1, clP]) ?_
      rintro _ _ ⟨rfl, rfl⟩
      exact ⟨.inl ⟨by decide, W.heap.size, b, c, rfl, Nat.le_trans HN1.out hb.size, h2, h3, Box.new W _ _, h4.alloc _, h5.alloc _⟩, below_alloc _ _⟩
    case h5 =>
      refine OpOk.plain (by kernel_rfl) _ rfl rfl fun vs ev W hf hb hd => ?_
      obtain ⟨g, b, c, h1, h2⟩ := (hd 4 (by kernel_rfl)).spec (by decide)
      have e1 := (hf.of 4 _ 20 rfl rfl rfl (of_decide_eq_true rfl)).trans h1
      clear hK
      refine gives_mono (R := fun v w' => v = .agg #[.slice (some ⟨g, 0, none⟩) 2 2, .int .i64 1] ∧ w' = W) (by simp [gives, go_sem, e1, hf.const]) ?_
      rintro _ _ ⟨rfl, rfl⟩
      exact ⟨.inl ⟨by decide, g, b, c, rfl, h2⟩, Below.refl _ _⟩
    case h6 =>
      refine OpOk.plain (by kernel_rfl) _ rfl rfl fun vs ev W hf hb hd => ?_
      clear hK
      refine gives_mono (R := fun v w' => v = .pointer (some ⟨W.heap.size, 0, none⟩) ∧ w' = W.alloc (.cells #[.slice none 0 0, .int .i64 0] 24)) (by simp [gives, go_sem]) ?_
      rintro _ _ ⟨rfl, rfl⟩
      exact ⟨.inl ⟨by decide, _, rfl, Nat.le_trans HN1.out hb.size, Box.new W _ _⟩, below_alloc _ _⟩
  case hlast =>
  intro vs W hb hT
  obtain ⟨g, b, c, s1, s2, s3, s4, xg, xb, xc⟩ := (hT 5 (by decide)).spec (by decide)
  obtain ⟨gg, h4, h5, x0⟩ := (hT 6 (by decide)).spec (by decide)
  refine last_plain (by kernel_rfl) rfl fun F ev hF hf => ?_
  have e1 := (hf.of 5 _ 21 rfl rfl rfl (of_decide_eq_true rfl)).trans s1
  have e2 := (hf.of 6 _ 3 rfl rfl rfl (of_decide_eq_true rfl)).trans h4
  have q0' := x0.cell 0 rfl
  have q1' := x0.cell 1 rfl
  have f0 := x0.frozen 0
  have f1 := x0.frozen 1
  have H8 : Hid (AwH w W7 p0 q0 z2 z3 z4 z5 z6 g b c gg ((W.setCell ⟨gg, 0, none⟩ (.slice (some ⟨g, 0, none⟩) 2 2)).setCell ⟨gg, 1, none⟩ (.int .i64 1))) := by
    have ss : ∀ {q : Nat} {cs : List Value}, Box W q cs → q ≠ gg → Box ((W.setCell ⟨gg, 0, none⟩ (.slice (some ⟨g, 0, none⟩) 2 2)).setCell ⟨gg, 1, none⟩ (.int .i64 1)) q cs := fun h hne => (h.set (p := ⟨gg, 0, none⟩) hne _).set (p := ⟨gg, 1, none⟩) hne _
    have hgg : W7.heap.size ≤ gg := Nat.le_trans HN1b.out h5
    have hbw : Below W7.heap.size W7 ((W.setCell ⟨gg, 0, none⟩ (.slice (some ⟨g, 0, none⟩) 2 2)).setCell ⟨gg, 1, none⟩ (.int .i64 1)) := (hb.setCell (p := ⟨gg, 0, none⟩) hgg _).setCell (p := ⟨gg, 1, none⟩) hgg _
    exact ⟨H7.out.1.call hbw, H7.out.2.1.call hbw, H7.out.2.2.2.1.call hbw, H7.out.2.2.2.2.1.call hbw, H7.out.2.2.2.2.2.1.call hbw, H7.out.2.2.2.2.2.2.1.call hbw, H7.out.2.2.2.2.2.2.2.trans (hbw.mono H7.out.2.2.2.2.2.2.2.size), (x0.self 0 _).self 1 _, ss xg (box_ne x0 xg rfl rfl (by simp)), ss xb (box_ne x0 xb rfl rfl (by simp)), ss xc (box_ne x0 xc rfl rfl (by simp))⟩
  refine gives_mono (R := fun v w' => v = undef ∧ w' = ((W.setCell ⟨gg, 0, none⟩ (.slice (some ⟨g, 0, none⟩) 2 2)).setCell ⟨gg, 1, none⟩ (.int .i64 1))) (by simp [gives, go_sem, e1, e2, q0', q1', f0, f1]) ?_
  rintro _ _ ⟨rfl, rfl⟩
  subst hF
  simp [fr, Act.put, s1, h4]
  generalize vs 0 = u0 at *
  generalize vs 1 = u1 at *
  generalize vs 2 = u2 at *
  generalize vs 3 = u3 at *
  generalize vs 4 = u4 at *
  generalize vs 5 = u5 at *
  generalize vs 6 = u6 at *
  clear hT hf s1 h4 e1 e2
  refine hK _ _ ?_
  clear hK x0 q0' q1' f0 f1 xg xb xc s2 s3 s4 h5 hb H7 HN1 HN1b
  generalize ((W.setCell ⟨gg, 0, none⟩ (.slice (some ⟨g, 0, none⟩) 2 2)).setCell ⟨gg, 1, none⟩ (.int .i64 1)) = W8 at *
  clear W
  obtain ⟨zw, hzw⟩ : ∃ z, z = W8.heap.size := ⟨_, rfl⟩
  have HWN : Hid (∀ W, Below (W8.alloc (.cells (cs4 0 0 4 4) 26)).heap.size (W8.alloc (.cells (cs4 0 0 4 4) 26)) W → AwH w W7 p0 q0 z2 z3 z4 z5 z6 g b c gg W ∧ Box W zw (cl4 ⟨0, 0, 4, 4⟩)) := fun W hW => by
    have hb := below_new W8 (.cells (cs4 0 0 4 4) 26)
    have X := Box.new W8 (cl4 ⟨0, 0, 4, 4⟩) 26
    rw [← hzw] at X
    exact ⟨(H8.out.call hb).call hW, X.call hW⟩
  go_wp2_with fail
  rename_i K hK
  rw [← hzw]
  generalize W8.alloc (.cells (cs4 0 0 4 4) 26) = W9 at *
  clear H8 hzw
  clear W8
  obtain ⟨n1, hn1⟩ : ∃ n, n = W9.heap.size := ⟨_, rfl⟩
  have HN1 : Hid (n1 ≤ W9.heap.size) := Nat.le_of_eq hn1
  have HN1b : Hid (W9.heap.size ≤ n1) := Nat.le_of_eq hn1.symm
  clear hn1
  obtain ⟨ps1, hps1⟩ : ∃ p, p = (plS (ndP 2 [1, 1]) 1 cAll ⟨0, 0, 4, 4⟩).ps := ⟨_, rfl⟩
  obtain ⟨sr1, hsr1⟩ : ∃ p, p = srcO (ndP 2 [1, 1]) 1 cAll ⟨0, 0, 4, 4⟩ := ⟨_, rfl⟩
  have HSps1 : Hid (srcO (ndP 2 [1, 1]) 1 cAll ⟨0, 0, 4, 4⟩ = sr1 ∧ ((plS (ndP 2 [1, 1]) 1 cAll ⟨0, 0, 4, 4⟩).sl.length : Int) = 2 ∧ (plS (ndP 2 [1, 1]) 1 cAll ⟨0, 0, 4, 4⟩).pk = 80 ∧ ps1 = (plS (ndP 2 [1, 1]) 1 cAll ⟨0, 0, 4, 4⟩).ps) := ⟨hsr1.symm, by rw [plP1.1]; rfl, plP1.2.2.2, hps1⟩
  clear hps1 hsr1
  have HMK : Hid (∀ W, Below W9.heap.size W9 W → Box W z6 [.slice (some ⟨z5, 0, none⟩) 2 2, .int .i64 1] ∧ Box W zw (cl4 ⟨0, 0, 4, 4⟩) ∧ Calls Tryd.prog 9 #[.agg #[.slice (some ⟨z5, 0, none⟩) 2 2, .int .i64 1], rv ⟨0, 0, 4, 4⟩, cfv cAll] W (MkPost W (plS (ndP 2 [1, 1]) 1 cAll ⟨0, 0, 4, 4⟩) (srcO (ndP 2 [1, 1]) 1 cAll ⟨0, 0, 4, 4⟩))) := fun W hW => by
    have hx := HWN.out W hW
    exact ⟨hx.1.2.2.2.2.2.1, hx.2, make_c W.heap.size _ (ndP 2 [1, 1]) 1 ⟨0, 0, 4, 4⟩ cAll W okP1 hx.1.gr1 (Nat.le_refl _)⟩
  refine wp_region_mono (QT [.agg #[.slice (some ⟨z5, 0, none⟩) 2 2, .int .i64 1], (rv ⟨0, 0, 4, 4⟩), (cfv cAll)] [3, 4] (PR1 n1 ps1 sr1 2 80)) 5 _ rfl rfl (by kernel_rfl) (by kernel_rfl) (QT.stab PR1.stab) ?hop ?hlast
  case hop =>
    refine Each.get (n := 5) ⟨⟨⟨⟨⟨trivial, ?h0⟩, ?h1⟩, ?h2⟩, ?h3⟩, ?h4⟩
    case h0 =>
      refine OpOk.plain (by kernel_rfl) _ rfl rfl fun vs ev W hf hb hd => ?_
      have e0 : ev (.tmp 2) = .pointer (some ⟨z6, 0, none⟩) := hf.off 2 rfl
      have d0 := (HMK.out W hb).1.cell 0 rfl
      have d1 := (HMK.out W hb).1.cell 1 rfl
      clear hK
      exact gives_mono (R := fun v w' => v = .agg #[.slice (some ⟨z5, 0, none⟩) 2 2, .int .i64 1] ∧ w' = W) (by simp [gives, go_sem, e0, d0, d1]) fun _ _ ⟨h1, h2⟩ => by subst h2; exact ⟨.inr ⟨by decide, h1⟩, Below.refl _ _⟩
    case h1 =>
      refine OpOk.plain (by kernel_rfl) _ rfl rfl fun vs ev W hf hb hd => ?_
      have e0 : ev (.tmp 4) = .pointer (some ⟨zw, 0, none⟩) := hf.off 4 rfl
      obtain ⟨d0, d1, d2, d3⟩ := box4 (HMK.out W hb).2.1
      clear hK
      exact gives_mono (R := fun v w' => v = (rv ⟨0, 0, 4, 4⟩) ∧ w' = W) (by simp [gives, go_sem, e0, d0, d1, d2, d3]) fun _ _ ⟨h1, h2⟩ => by subst h2; exact ⟨.inr ⟨by decide, h1⟩, Below.refl _ _⟩
    case h2 =>
      refine OpOk.plain (by kernel_rfl) _ rfl rfl fun vs ev W hf hb hd => ?_
      have hc := conf_c W
      have ef := hf.func 15
      clear hK
      refine gives_mono (R := fun v w' => v = cfv cAll ∧ Below W.heap.size W w') ?_ ?_
      · simp [gives, execOp, resolve, invoke, ef, go_sem]
        exact hc.mono fun e w' h => ⟨_, h.1, rfl, h.2⟩
      · rintro v w' ⟨h1, h2⟩
        exact ⟨.inr ⟨by decide, h1⟩, h2⟩
    case h3 =>
      refine OpOk.plain (by kernel_rfl) _ rfl rfl fun vs ev W hf hb hd => ?_
      have e0 : ev (.tmp 23) = .agg #[.slice (some ⟨z5, 0, none⟩) 2 2, .int .i64 1] := (hf.of 0 _ 23 rfl rfl rfl (of_decide_eq_true rfl)).trans ((hd 0 (by kernel_rfl)).val (by decide))
      have e1 : ev (.tmp 24) = (rv ⟨0, 0, 4, 4⟩) := (hf.of 1 _ 24 rfl rfl rfl (of_decide_eq_true rfl)).trans ((hd 1 (by kernel_rfl)).val (by decide))
      have e2 : ev (.tmp 25) = (cfv cAll) := (hf.of 2 _ 25 rfl rfl rfl (of_decide_eq_true rfl)).trans ((hd 2 (by kernel_rfl)).val (by decide))
      refine gives_mono (R := fun v w' => ∃ e, e = Ending.returned v ∧ MkPost W (plS (ndP 2 [1, 1]) 1 cAll ⟨0, 0, 4, 4⟩) (srcO (ndP 2 [1, 1]) 1 cAll ⟨0, 0, 4, 4⟩) e w') ?_ ?_
      · have hc := (HMK.out W hb).2.2
        clear hK
        have ef := hf.func 9
        simp [gives, execOp, resolve, invoke, e0, e1, e2, ef, go_sem]
        exact hc.mono fun e w' h => by
          obtain ⟨pl, pv, he, h2, h3⟩ := h
          exact ⟨_, he, pl, pv, rfl, h2, h3⟩
      · rintro v w' ⟨e, he, pl, pv, he2, h2, h3, h4⟩
        rw [he] at he2
        cases he2
        exact ⟨.inl ⟨by decide, pl, pv, by rw [HSps1.out.1, HSps1.out.2.1, HSps1.out.2.2.1], by rw [HSps1.out.2.2.2]; exact h2, h3.mono (Nat.le_trans HN1.out hb.size)⟩, h4⟩
    case h4 =>
      refine OpOk.plain (by kernel_rfl) _ rfl rfl fun vs ev W hf hb hd => ?_
      clear hK
      refine gives_mono (R := fun v w' => v = .pointer (some ⟨W.heap.size, 0, none⟩) ∧ w' = W.alloc (.cells #[.slice none 0 0, .int .i64 0, .int .i64 0, .int .i64 0, .int .i64 0, .int .i64 0, .int .i64 0] 33)) (by simp [gives, go_sem]) ?_
      rintro _ _ ⟨rfl, rfl⟩
      exact ⟨.inl ⟨by decide, _, rfl, Nat.le_trans HN1.out hb.size, TB.new W _ _⟩, below_alloc _ _⟩
  case hlast =>
  intro vs W hb hT
  obtain ⟨plps1, va, s1, s2, s3⟩ := (hT 3 (by decide)).spec (by decide)
  obtain ⟨qa, h4, h5, x0⟩ := (hT 4 (by decide)).spec (by decide)
  refine last_plain (by kernel_rfl) rfl fun F ev hF hf => ?_
  have e1 := (hf.of 3 _ 26 rfl rfl rfl (of_decide_eq_true rfl)).trans s1
  have e2 := (hf.of 4 _ 5 rfl rfl rfl (of_decide_eq_true rfl)).trans h4
  have q0' := x0.box.cell 0 rfl
  have f0 := x0.box.frozen 0
  have q1' := x0.box.cell 1 rfl
  have f1 := x0.box.frozen 1
  have q2' := x0.box.cell 2 rfl
  have f2 := x0.box.frozen 2
  have q3' := x0.box.cell 3 rfl
  have f3 := x0.box.frozen 3
  have q4' := x0.box.cell 4 rfl
  have f4 := x0.box.frozen 4
  have q5' := x0.box.cell 5 rfl
  have f5 := x0.box.frozen 5
  have q6' := x0.box.cell 6 rfl
  have f6 := x0.box.frozen 6
  have HVA : Hid (PV n1 qa ps1 sr1 2 80 plps1 va (((((((W.setCell ⟨qa, 0, none⟩ (va)).setCell ⟨qa, 1, none⟩ (.int .i64 sr1.x0)).setCell ⟨qa, 2, none⟩ (.int .i64 sr1.y0)).setCell ⟨qa, 3, none⟩ (.int .i64 sr1.x1)).setCell ⟨qa, 4, none⟩ (.int .i64 sr1.y1)).setCell ⟨qa, 5, none⟩ (.int .i64 2)).setCell ⟨qa, 6, none⟩ (.int .i64 80)) ∧ Below W9.heap.size W9 (((((((W.setCell ⟨qa, 0, none⟩ (va)).setCell ⟨qa, 1, none⟩ (.int .i64 sr1.x0)).setCell ⟨qa, 2, none⟩ (.int .i64 sr1.y0)).setCell ⟨qa, 3, none⟩ (.int .i64 sr1.x1)).setCell ⟨qa, 4, none⟩ (.int .i64 sr1.y1)).setCell ⟨qa, 5, none⟩ (.int .i64 2)).setCell ⟨qa, 6, none⟩ (.int .i64 80))) := by
    have hq : W9.heap.size ≤ qa := Nat.le_trans HN1b.out h5
    exact ⟨PV.made x0 s3 s2, (((((((hb.setCell hq _).setCell hq _).setCell hq _).setCell hq _).setCell hq _).setCell hq _).setCell hq _)⟩
  have hpf : ∃ a c', va = .slice a plps1.length c' := s3.form
  refine gives_mono (R := fun v w' => v = undef ∧ w' = (((((((W.setCell ⟨qa, 0, none⟩ (va)).setCell ⟨qa, 1, none⟩ (.int .i64 sr1.x0)).setCell ⟨qa, 2, none⟩ (.int .i64 sr1.y0)).setCell ⟨qa, 3, none⟩ (.int .i64 sr1.x1)).setCell ⟨qa, 4, none⟩ (.int .i64 sr1.y1)).setCell ⟨qa, 5, none⟩ (.int .i64 2)).setCell ⟨qa, 6, none⟩ (.int .i64 80))) (by obtain ⟨a, c', hpv⟩ := hpf; subst hpv; simp [gives, go_sem, e1, e2, q0', q1', q2', q3', q4', q5', q6', f0, f1, f2, f3, f4, f5, f6]) ?_
  rintro _ _ ⟨rfl, rfl⟩
  subst hF
  simp [fr, Act.put, s1, h4]
  generalize vs 0 = u0 at *
  generalize vs 1 = u1 at *
  generalize vs 2 = u2 at *
  generalize vs 3 = u3 at *
  generalize vs 4 = u4 at *
  clear hT hf s1 h4 e1 e2
  refine hK _ _ ?_
  clear hK x0 q0' q1' q2' q3' q4' q5' q6' f0 f1 f2 f3 f4 f5 f6 s2 s3 h5 hb hpf HMK
  generalize (((((((W.setCell ⟨qa, 0, none⟩ (va)).setCell ⟨qa, 1, none⟩ (.int .i64 sr1.x0)).setCell ⟨qa, 2, none⟩ (.int .i64 sr1.y0)).setCell ⟨qa, 3, none⟩ (.int .i64 sr1.x1)).setCell ⟨qa, 4, none⟩ (.int .i64 sr1.y1)).setCell ⟨qa, 5, none⟩ (.int .i64 2)).setCell ⟨qa, 6, none⟩ (.int .i64 80)) = W10 at *
  clear W
  have HW2 : Hid (∀ W, Below W10.heap.size W10 W → (AwH w W7 p0 q0 z2 z3 z4 z5 z6 g b c gg W ∧ Box W zw (cl4 ⟨0, 0, 4, 4⟩)) ∧ PV n1 qa ps1 sr1 2 80 plps1 va W) := fun W hW => by
    have h := HWN.out W (HVA.out.2.trans (hW.mono HVA.out.2.size))
    exact ⟨h, HVA.out.1.call hW⟩
  have HN10 : Hid (n1 ≤ W10.heap.size) := Nat.le_trans HN1.out HVA.out.2.size
  clear HWN HVA HN1 HN1b
  clear W9
  go_wp2_with fail
  rename_i K hK
  obtain ⟨n2, hn2⟩ : ∃ n, n = W10.heap.size := ⟨_, rfl⟩
  have HN1 : Hid (n2 ≤ W10.heap.size) := Nat.le_of_eq hn2
  have HN1b : Hid (W10.heap.size ≤ n2) := Nat.le_of_eq hn2.symm
  clear hn2
  obtain ⟨ps2, hps2⟩ : ∃ p, p = (plS (ndP 5 (List.replicate 20 0)) 1 cAll ⟨0, 0, 4, 4⟩).ps := ⟨_, rfl⟩
  obtain ⟨sr2, hsr2⟩ : ∃ p, p = srcO (ndP 5 (List.replicate 20 0)) 1 cAll ⟨0, 0, 4, 4⟩ := ⟨_, rfl⟩
  have HSps2 : Hid (srcO (ndP 5 (List.replicate 20 0)) 1 cAll ⟨0, 0, 4, 4⟩ = sr2 ∧ ((plS (ndP 5 (List.replicate 20 0)) 1 cAll ⟨0, 0, 4, 4⟩).sl.length : Int) = 1 ∧ (plS (ndP 5 (List.replicate 20 0)) 1 cAll ⟨0, 0, 4, 4⟩).pk = 16 ∧ ps2 = (plS (ndP 5 (List.replicate 20 0)) 1 cAll ⟨0, 0, 4, 4⟩).ps) := ⟨hsr2.symm, by rw [plP2.1]; rfl, plP2.2.2.2, hps2⟩
  clear hps2 hsr2
  have HMK : Hid (∀ W, Below W10.heap.size W10 W → Box W gg [.slice (some ⟨g, 0, none⟩) 2 2, .int .i64 1] ∧ Box W zw (cl4 ⟨0, 0, 4, 4⟩) ∧ Calls Tryd.prog 9 #[.agg #[.slice (some ⟨g, 0, none⟩) 2 2, .int .i64 1], rv ⟨0, 0, 4, 4⟩, cfv cAll] W (MkPost W (plS (ndP 5 (List.replicate 20 0)) 1 cAll ⟨0, 0, 4, 4⟩) (srcO (ndP 5 (List.replicate 20 0)) 1 cAll ⟨0, 0, 4, 4⟩))) := fun W hW => by
    have hx := HW2.out W hW
    exact ⟨hx.1.1.2.2.2.2.2.2.2.1, hx.1.2, make_c W.heap.size _ (ndP 5 (List.replicate 20 0)) 1 ⟨0, 0, 4, 4⟩ cAll W okP2 hx.1.1.gr2 (Nat.le_refl _)⟩
  refine wp_region_mono (QT [.agg #[.slice (some ⟨g, 0, none⟩) 2 2, .int .i64 1], (rv ⟨0, 0, 4, 4⟩), (cfv cAll)] [3, 4] (PR1 n2 ps2 sr2 1 16)) 5 _ rfl rfl (by kernel_rfl) (by kernel_rfl) (QT.stab PR1.stab) ?hop ?hlast
  case hop =>
    refine Each.get (n := 5) ⟨⟨⟨⟨⟨trivial, ?h0⟩, ?h1⟩, ?h2⟩, ?h3⟩, ?h4⟩
    case h0 =>
      refine OpOk.plain (by kernel_rfl) _ rfl rfl fun vs ev W hf hb hd => ?_
      have e0 : ev (.tmp 3) = .pointer (some ⟨gg, 0, none⟩) := hf.off 3 rfl
      have d0 := (HMK.out W hb).1.cell 0 rfl
      have d1 := (HMK.out W hb).1.cell 1 rfl
      clear hK
      exact gives_mono (R := fun v w' => v = .agg #[.slice (some ⟨g, 0, none⟩) 2 2, .int .i64 1] ∧ w' = W) (by simp [gives, go_sem, e0, d0, d1]) fun _ _ ⟨h1, h2⟩ => by subst h2; exact ⟨.inr ⟨by decide, h1⟩, Below.refl _ _⟩
    case h1 =>
      refine OpOk.plain (by kernel_rfl) _ rfl rfl fun vs ev W hf hb hd => ?_
      have e0 : ev (.tmp 4) = .pointer (some ⟨zw, 0, none⟩) := hf.off 4 rfl
      obtain ⟨d0, d1, d2, d3⟩ := box4 (HMK.out W hb).2.1
      clear hK
      exact gives_mono (R := fun v w' => v = (rv ⟨0, 0, 4, 4⟩) ∧ w' = W) (by simp [gives, go_sem, e0, d0, d1, d2, d3]) fun _ _ ⟨h1, h2⟩ => by subst h2; exact ⟨.inr ⟨by decide, h1⟩, Below.refl _ _⟩
    case h2 =>
      refine OpOk.plain (by kernel_rfl) _ rfl rfl fun vs ev W hf hb hd => ?_
      have hc := conf_c W
      have ef := hf.func 15
      clear hK
      refine gives_mono (R := fun v w' => v = cfv cAll ∧ Below W.heap.size W w') ?_ ?_
      · simp [gives, execOp, resolve, invoke, ef, go_sem]
        exact hc.mono fun e w' h => ⟨_, h.1, rfl, h.2⟩
      · rintro v w' ⟨h1, h2⟩
        exact ⟨.inr ⟨by decide, h1⟩, h2⟩
    case h3 =>
      refine OpOk.plain (by kernel_rfl) _ rfl rfl fun vs ev W hf hb hd => ?_
      have e0 : ev (.tmp 27) = .agg #[.slice (some ⟨g, 0, none⟩) 2 2, .int .i64 1] := (hf.of 0 _ 27 rfl rfl rfl (of_decide_eq_true rfl)).trans ((hd 0 (by kernel_rfl)).val (by decide))
      have e1 : ev (.tmp 28) = (rv ⟨0, 0, 4, 4⟩) := (hf.of 1 _ 28 rfl rfl rfl (of_decide_eq_true rfl)).trans ((hd 1 (by kernel_rfl)).val (by decide))
      have e2 : ev (.tmp 29) = (cfv cAll) := (hf.of 2 _ 29 rfl rfl rfl (of_decide_eq_true rfl)).trans ((hd 2 (by kernel_rfl)).val (by decide))
      refine gives_mono (R := fun v w' => ∃ e, e = Ending.returned v ∧ MkPost W (plS (ndP 5 (List.replicate 20 0)) 1 cAll ⟨0, 0, 4, 4⟩) (srcO (ndP 5 (List.replicate 20 0)) 1 cAll ⟨0, 0, 4, 4⟩) e w') ?_ ?_
      · have hc := (HMK.out W hb).2.2
        clear hK
        have ef := hf.func 9
        simp [gives, execOp, resolve, invoke, e0, e1, e2, ef, go_sem]
        exact hc.mono fun e w' h => by
          obtain ⟨pl, pv, he, h2, h3⟩ := h
          exact ⟨_, he, pl, pv, rfl, h2, h3⟩
      · rintro v w' ⟨e, he, pl, pv, he2, h2, h3, h4⟩
        rw [he] at he2
        cases he2
        exact ⟨.inl ⟨by decide, pl, pv, by rw [HSps2.out.1, HSps2.out.2.1, HSps2.out.2.2.1], by rw [HSps2.out.2.2.2]; exact h2, h3.mono (Nat.le_trans HN1.out hb.size)⟩, h4⟩
    case h4 =>
      refine OpOk.plain (by kernel_rfl) _ rfl rfl fun vs ev W hf hb hd => ?_
      clear hK
      refine gives_mono (R := fun v w' => v = .pointer (some ⟨W.heap.size, 0, none⟩) ∧ w' = W.alloc (.cells #[.slice none 0 0, .int .i64 0, .int .i64 0, .int .i64 0, .int .i64 0, .int .i64 0, .int .i64 0] 33)) (by simp [gives, go_sem]) ?_
      rintro _ _ ⟨rfl, rfl⟩
      exact ⟨.inl ⟨by decide, _, rfl, Nat.le_trans HN1.out hb.size, TB.new W _ _⟩, below_alloc _ _⟩
  case hlast =>
  intro vs W hb hT
  obtain ⟨plps2, vb, s1, s2, s3⟩ := (hT 3 (by decide)).spec (by decide)
  obtain ⟨qb, h4, h5, x0⟩ := (hT 4 (by decide)).spec (by decide)
  refine last_plain (by kernel_rfl) rfl fun F ev hF hf => ?_
  have e1 := (hf.of 3 _ 30 rfl rfl rfl (of_decide_eq_true rfl)).trans s1
  have e2 := (hf.of 4 _ 6 rfl rfl rfl (of_decide_eq_true rfl)).trans h4
  have q0' := x0.box.cell 0 rfl
  have f0 := x0.box.frozen 0
  have q1' := x0.box.cell 1 rfl
  have f1 := x0.box.frozen 1
  have q2' := x0.box.cell 2 rfl
  have f2 := x0.box.frozen 2
  have q3' := x0.box.cell 3 rfl
  have f3 := x0.box.frozen 3
  have q4' := x0.box.cell 4 rfl
  have f4 := x0.box.frozen 4
  have q5' := x0.box.cell 5 rfl
  have f5 := x0.box.frozen 5
  have q6' := x0.box.cell 6 rfl
  have f6 := x0.box.frozen 6
  have HVB : Hid (PV n2 qb ps2 sr2 1 16 plps2 vb (((((((W.setCell ⟨qb, 0, none⟩ (vb)).setCell ⟨qb, 1, none⟩ (.int .i64 sr2.x0)).setCell ⟨qb, 2, none⟩ (.int .i64 sr2.y0)).setCell ⟨qb, 3, none⟩ (.int .i64 sr2.x1)).setCell ⟨qb, 4, none⟩ (.int .i64 sr2.y1)).setCell ⟨qb, 5, none⟩ (.int .i64 1)).setCell ⟨qb, 6, none⟩ (.int .i64 16)) ∧ Below W10.heap.size W10 (((((((W.setCell ⟨qb, 0, none⟩ (vb)).setCell ⟨qb, 1, none⟩ (.int .i64 sr2.x0)).setCell ⟨qb, 2, none⟩ (.int .i64 sr2.y0)).setCell ⟨qb, 3, none⟩ (.int .i64 sr2.x1)).setCell ⟨qb, 4, none⟩ (.int .i64 sr2.y1)).setCell ⟨qb, 5, none⟩ (.int .i64 1)).setCell ⟨qb, 6, none⟩ (.int .i64 16))) := by
    have hq : W10.heap.size ≤ qb := Nat.le_trans HN1b.out h5
    exact ⟨PV.made x0 s3 s2, (((((((hb.setCell hq _).setCell hq _).setCell hq _).setCell hq _).setCell hq _).setCell hq _).setCell hq _)⟩
  have hpf : ∃ a c', vb = .slice a plps2.length c' := s3.form
  refine gives_mono (R := fun v w' => v = undef ∧ w' = (((((((W.setCell ⟨qb, 0, none⟩ (vb)).setCell ⟨qb, 1, none⟩ (.int .i64 sr2.x0)).setCell ⟨qb, 2, none⟩ (.int .i64 sr2.y0)).setCell ⟨qb, 3, none⟩ (.int .i64 sr2.x1)).setCell ⟨qb, 4, none⟩ (.int .i64 sr2.y1)).setCell ⟨qb, 5, none⟩ (.int .i64 1)).setCell ⟨qb, 6, none⟩ (.int .i64 16))) (by obtain ⟨a, c', hpv⟩ := hpf; subst hpv; simp [gives, go_sem, e1, e2, q0', q1', q2', q3', q4', q5', q6', f0, f1, f2, f3, f4, f5, f6]) ?_
  rintro _ _ ⟨rfl, rfl⟩
  subst hF
  simp [fr, Act.put, s1, h4]
  generalize vs 0 = u0 at *
  generalize vs 1 = u1 at *
  generalize vs 2 = u2 at *
  generalize vs 3 = u3 at *
  generalize vs 4 = u4 at *
  clear hT hf s1 h4 e1 e2
  refine hK _ _ ?_
  clear hK x0 q0' q1' q2' q3' q4' q5' q6' f0 f1 f2 f3 f4 f5 f6 s2 s3 h5 hb hpf HMK
  generalize (((((((W.setCell ⟨qb, 0, none⟩ (vb)).setCell ⟨qb, 1, none⟩ (.int .i64 sr2.x0)).setCell ⟨qb, 2, none⟩ (.int .i64 sr2.y0)).setCell ⟨qb, 3, none⟩ (.int .i64 sr2.x1)).setCell ⟨qb, 4, none⟩ (.int .i64 sr2.y1)).setCell ⟨qb, 5, none⟩ (.int .i64 1)).setCell ⟨qb, 6, none⟩ (.int .i64 16)) = W11 at *
  clear W
  have HX : Hid (PV n1 qa ps1 sr1 2 80 plps1 va W11 ∧ PV n2 qb ps2 sr2 1 16 plps2 vb W11 ∧ Below w.heap.size w W11) := by
    have h := HW2.out W11 HVB.out.2
    exact ⟨h.2, HVB.out.1, h.1.1.2.2.2.2.2.2.1⟩
  clear HW2 HVB HN1 HN1b HN10
  clear W10
  obtain ⟨⟨t1, hpl1, hpr1⟩, ⟨t2, hpl2, hpr2⟩, hbf⟩ := HX.out
  have hl1 : plps1.length = 2 := by rw [← psl_len, hpl1, HSps1.out.2.2.2]; exact plP1.2.1
  have hl2 : plps2.length = 2 := by rw [← psl_len, hpl2, HSps2.out.2.2.2]; exact plP2.2.1
  obtain ⟨ga, capa, _, _, _, _, hva, _, _, _, _, pc1, _, _⟩ := hpr1.at (i := 0) (by omega) rfl
  obtain ⟨gb, capb, _, _, _, _, hvb, _, _, _, _, pc2, _, _⟩ := hpr2.at (i := 1) (by omega) rfl
  rw [hpl1, HSps1.out.2.2.2] at pc1
  rw [hpl2, HSps2.out.2.2.2] at pc2
  rw [hl1] at hva
  rw [hl2] at hvb
  subst hva hvb
  have a0 := t1.box.cell 0 rfl
  have a5 := t1.box.cell 5 rfl
  have a6 := t1.box.cell 6 rfl
  have b0 := t2.box.cell 0 rfl
  have b5 := t2.box.cell 5 rfl
  have b6 := t2.box.cell 6 rfl
  obtain ⟨_, _, c2, c3, c4, c5, _, _⟩ := pc1
  obtain ⟨_, _, _, _, _, _, d6, _⟩ := pc2
  rw [plP1.2.2.1] at c2 c3 c4 c5
  rw [plP2.2.2.1] at d6
  have c2 : W11.cell? ⟨ga, 2, none⟩ = some (.int .i64 (-1)) := c2
  have c3 : W11.cell? ⟨ga, 3, none⟩ = some (.int .i64 (-1)) := c3
  have c4 : W11.cell? ⟨ga, 4, none⟩ = some (.int .i64 5) := c4
  have c5 : W11.cell? ⟨ga, 5, none⟩ = some (.int .i64 5) := c5
  have d6 : W11.cell? ⟨gb, 14, none⟩ = some (.int .i64 0) := d6
  have hq := eqlRc ⟨-1, -1, 5, 5⟩ ⟨-1, -1, 5, 5⟩
  have hre : rcEq ⟨-1, -1, 5, 5⟩ ⟨-1, -1, 5, 5⟩ = true := by decide
  rw [hre] at hq
  have HB : Hid (Below w.heap.size w W11) := hbf
  clear HX t1 t2 hpl1 hpl2 hpr1 hpr2 hbf hl1 hl2 hre HSps1 HSps2
  go_wp2_with fail
  go_ret
  exact ⟨rfl, HB.out⟩
end Go.Proofs.YthaniopkpmhalaaDoor
