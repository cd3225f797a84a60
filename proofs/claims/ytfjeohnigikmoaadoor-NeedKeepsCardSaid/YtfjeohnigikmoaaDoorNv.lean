/- Layer 14: comparing rectangles; the program's answer for a right filter; 'awake'. -/
import Derived.Test.YtfjeohnigikmoaaDoorNt
import Derived.Test.YtfjeohnigikmoaaDoorNu
import Derived.Test.YtfjeohnigikmoaaDoorArN0
import Derived.Laws.StructEq
namespace Go.Proofs.YtfjeohnigikmoaaDoor
open Go.RowKit Go.Bx Go.Od Go.Hp
attribute [local go_sem ↓] Go.wp_at_zero Go.wp_at_succ
set_option linter.unusedVariables false

theorem struct_Rect : Tryd.prog.underlying 26 = some (.struct (Tryd.prog.fieldsOf 26)) := by kernel_rfl
theorem stood_Rect : Tryd.prog.stoodInHeld 26 = false := by kernel_rfl
theorem fields_Rect : (Tryd.prog.fieldsOf 26).toList.map (fun f => (decide (f.name = "_"), f.type, f.offset)) = [(false, 3, 0), (false, 3, 1), (false, 3, 2), (false, 3, 3)] := by kernel_rfl
set_option maxHeartbeats 400000 in
theorem eqRect (a b c d : Int) (w : World) : (Op.equalIn 10000 26 (.agg #[.int .i64 a, .int .i64 b, .int .i64 c, .int .i64 d]) (.agg #[.int .i64 a, .int .i64 b, .int .i64 c, .int .i64 d])).run Tryd.prog w = .ok true w := by
  rw [run_equalIn_struct w 9999 26 _ _ struct_Rect stood_Rect]
  have hf := fields_Rect
  generalize (Tryd.prog.fieldsOf 26).toList = l at hf ⊢
  rcases l with _ | ⟨f, _ | ⟨g, _ | ⟨h, _ | ⟨k, _ | ⟨e, l⟩⟩⟩⟩⟩
  · simp at hf
  · simp at hf
  · simp at hf
  · simp at hf
  rotate_left
  · simp at hf
  · simp only [List.map_cons, List.map_nil, List.cons.injEq, Prod.mk.injEq, and_true, decide_eq_false_iff_not] at hf
    obtain ⟨⟨a1, a2, a3⟩, ⟨b1, b2, b3⟩, ⟨c1, c2, c3⟩, d1, d2, d3⟩ := hf
    unfold Op.eqFields
    rw [a2, a3, if_pos a1]
    unfold Op.eqFields
    rw [b2, b3, if_pos b1]
    unfold Op.eqFields
    rw [c2, c3, if_pos c1]
    unfold Op.eqFields
    rw [d2, d3, if_pos d1]
    unfold Op.eqFields
    go_simp
theorem neqR (a b c d : Int) (w : World) : (binOp .neq 26 (.agg #[.int .i64 a, .int .i64 b, .int .i64 c, .int .i64 d]) (.agg #[.int .i64 a, .int .i64 b, .int .i64 c, .int .i64 d])).run Tryd.prog w = .ok (.bool false) w := by
  rw [run_neq_struct, eqRect]
  rfl
theorem eqlR (a b c d : Int) (w : World) : (binOp .eql 26 (.agg #[.int .i64 a, .int .i64 b, .int .i64 c, .int .i64 d]) (.agg #[.int .i64 a, .int .i64 b, .int .i64 c, .int .i64 d])).run Tryd.prog w = .ok (.bool true) w := by
  rw [run_eql_struct, eqRect]
  rfl
theorem all14_c (B : Nat) (nv : Value) (nds : List Nd) (out : Int) (want : Rc) (w : World) (hgd : GoodN nds out) (hg : Gr B w nv nds) (hB : B ≤ w.heap.size) (hw : RcP want) :
    Calls Tryd.prog 9 #[.agg #[nv, .int .i64 out], rv want] w (NaPost w nds.length (allN nds want out)) := by
  obtain ⟨o, rfl⟩ : ∃ o : Nat, out = o := ⟨out.toNat, by have := hgd.outs.1; omega⟩
  have h0 : 0 < (ord (insOf nds)).length := List.length_pos_of_mem (hgd.full 0 hgd.pos)
  exact (callsIn_wide (n := 6)).1 (needall_in Fence.wide 6 (fun _ => trivial) rfl (by omega) (fun h => callsIn_wide.2 h) B nv nds o want w (by have := hgd.few; omega) hgd.short hg hB (by have := hgd.outs.2; omega) hw h0 hgd.pa hgd.rng)
def ndA : List Nd := [⟨1, [-1], [5, 0]⟩, ⟨2, [0], [1, 2]⟩]
theorem sl_box {W : World} {b B n : Nat} {xs : List Int} (h : Box W b (xs.map (Value.int .i64))) (hn : n = xs.length) (hx : ∀ x ∈ xs, In64 x) (hb : b < B) (hl : n ≤ maxLen) : SlOf RInt 1 (· < B) W (.slice (some ⟨b, 0, none⟩) n n) xs := by
  subst hn
  refine ⟨_, xs.length, rfl, Nat.le_refl _, hl, .inr ⟨b, 0, rfl, hb, fun i x hi => ?_⟩⟩
  refine ⟨[.int .i64 x], rfl, fun j u hu => ?_, rfl, hx x (List.mem_of_getElem? hi)⟩
  cases j with
  | zero =>
    simp at hu
    subst hu
    simp only [Nat.mul_one, Nat.zero_add, Nat.add_zero]
    exact h.cell i (by simp [hi])
  | succ j => simp at hu
theorem in_small {x : Int} (h : -1000 ≤ x ∧ x ≤ 1000) : In64 x := by unfold In64; omega
def clA (p q b c : Nat) : List Value := [.int .i64 1, .slice (some ⟨p, 0, none⟩) 1 1, .slice (some ⟨q, 0, none⟩) 2 2, .int .i64 2, .slice (some ⟨b, 0, none⟩) 1 1, .slice (some ⟨c, 0, none⟩) 2 2]
theorem grA {W : World} {g p q b c B : Nat} (hg : Box W g (clA p q b c)) (hp : Box W p ([-1].map (Value.int .i64))) (hq : Box W q ([5, 0].map (Value.int .i64))) (hb : Box W b ([0].map (Value.int .i64))) (hc : Box W c ([1, 2].map (Value.int .i64))) (hB : W.heap.size ≤ B) : Gr B W (.slice (some ⟨g, 0, none⟩) 2 2) ndA := by
  refine ⟨_, 2, rfl, Nat.le_refl _, by decide, .inr ⟨g, 0, rfl, Nat.lt_of_lt_of_le hg.lt hB, fun i x' hi => ?_⟩⟩
  match i, hi with
  | 0, hi =>
    simp [ndA] at hi; subst hi
    exact ⟨_, rfl, lies3 hg 0 rfl rfl rfl, _, _, rfl, in_small (x := 1) (by decide), sl_box (xs := [-1]) hp rfl (fun z hz => in_small (by simp at hz; omega)) (Nat.lt_of_lt_of_le hp.lt hB) (by decide), sl_box (xs := [5, 0]) hq rfl (fun z hz => in_small (by simp at hz; omega)) (Nat.lt_of_lt_of_le hq.lt hB) (by decide)⟩
  | 1, hi =>
    simp [ndA] at hi; subst hi
    exact ⟨_, rfl, lies3 hg 3 rfl rfl rfl, _, _, rfl, in_small (x := 2) (by decide), sl_box (xs := [0]) hb rfl (fun z hz => in_small (by simp at hz; omega)) (Nat.lt_of_lt_of_le hb.lt hB) (by decide), sl_box (xs := [1, 2]) hc rfl (fun z hz => in_small (by simp at hz; omega)) (Nat.lt_of_lt_of_le hc.lt hB) (by decide)⟩
  | i + 2, hi => simp [ndA] at hi
theorem ordA : ord (insOf ndA) = [0, 1] := by decide
theorem goodA : GoodN ndA 1 := by
  refine ⟨by decide, fun i hi => ?_, by decide, by decide, fun i hi => ?_, fun i hi => ?_, fun i hi => ?_⟩
  · match i, hi with
    | 0, _ => simp [ndA]
    | 1, _ => simp [ndA]
  · rw [ordA]
    match i, hi with
    | 0, _ => simp
    | 1, _ => simp
  · match i, hi with
    | 0, _ => exact (pa_of (n := 2) (by decide)).1
    | 1, _ => exact (pa_of (n := 2) (by decide)).1
  · match i, hi with
    | 0, _ => exact (pa_of (n := 2) (by decide)).2
    | 1, _ => exact (pa_of (n := 2) (by decide)).2
theorem rcA : RcP ⟨0, 0, 1, 1⟩ := by unfold RcP Pl; decide
theorem allA : rl 2 (allN ndA ⟨0, 0, 1, 1⟩ 1).1 = [⟨-1, -2, 2, 3⟩, ⟨0, 0, 1, 1⟩] ∧ (allN ndA ⟨0, 0, 1, 1⟩ 1).2 = ⟨-6, -2, -3, 3⟩ := by
  unfold allN
  rw [ordA]
  exact ⟨by kernel_rfl, by kernel_rfl⟩
/-- a graph and a rectangle, boxed -/
def GW (w W : World) (a b : Value) (r : Rc) : Prop := Box W w.heap.size [a, b] ∧ Box W (w.heap.size + 1) (cl4 r) ∧ Below w.heap.size w W
theorem GW.new (w : World) (a b : Value) (r : Rc) (t1 t2 : TypeId) : GW w ((w.alloc (.cells #[a, b] t1)).alloc (.cells (cs4 r.x0 r.y0 r.x1 r.y1) t2)) a b r := by
  have h0 := Box.new w [a, b] t1
  have h1 := Box.new (w.alloc (.cells #[a, b] t1)) (cl4 r) t2
  rw [size_alloc] at h1
  exact ⟨h0.alloc _, h1, (below_new w _).alloc (by rw [size_alloc]; omega) _⟩
theorem GW.call {w W W' : World} {a b : Value} {r : Rc} (h : GW w W a b r) (hb : Below W.heap.size W W') : GW w W' a b r := ⟨h.1.call hb, h.2.1.call hb, h.2.2.trans (hb.mono h.2.2.size)⟩
def AwW (w W : World) : Prop := Box W (w.heap.size + 1 + 1 + 1 + 1 + 1) [.slice (some ⟨w.heap.size + 1 + 1 + 1 + 1, 0, none⟩) 2 2, .int .i64 1] ∧ Gr W.heap.size W (.slice (some ⟨w.heap.size + 1 + 1 + 1 + 1, 0, none⟩) 2 2) ndA ∧ Below w.heap.size w W
theorem AwW.new (w : World) : AwW w ((((((w.alloc (.cells #[.int .i64 (-1)] 3)).alloc (.cells #[.int .i64 5, .int .i64 0] 3)).alloc (.cells #[.int .i64 0] 3)).alloc (.cells #[.int .i64 1, .int .i64 2] 3)).alloc (.cells #[.int .i64 1, .slice (some ⟨w.heap.size, 0, none⟩) 1 1, .slice (some ⟨w.heap.size + 1, 0, none⟩) 2 2, .int .i64 2, .slice (some ⟨w.heap.size + 1 + 1, 0, none⟩) 1 1, .slice (some ⟨w.heap.size + 1 + 1 + 1, 0, none⟩) 2 2] 39)).alloc (.cells #[.slice (some ⟨w.heap.size + 1 + 1 + 1 + 1, 0, none⟩) 2 2, .int .i64 1] 24)) := by
  have h0 := Box.new w [.int .i64 (-1)] 3
  have h1 := Box.new (w.alloc (.cells #[.int .i64 (-1)] 3)) [.int .i64 5, .int .i64 0] 3
  have h2 := Box.new ((w.alloc (.cells #[.int .i64 (-1)] 3)).alloc (.cells #[.int .i64 5, .int .i64 0] 3)) [.int .i64 0] 3
  have h3 := Box.new (((w.alloc (.cells #[.int .i64 (-1)] 3)).alloc (.cells #[.int .i64 5, .int .i64 0] 3)).alloc (.cells #[.int .i64 0] 3)) [.int .i64 1, .int .i64 2] 3
  have h4 := Box.new ((((w.alloc (.cells #[.int .i64 (-1)] 3)).alloc (.cells #[.int .i64 5, .int .i64 0] 3)).alloc (.cells #[.int .i64 0] 3)).alloc (.cells #[.int .i64 1, .int .i64 2] 3)) (clA w.heap.size (w.heap.size + 1) (w.heap.size + 1 + 1) (w.heap.size + 1 + 1 + 1)) 39
  have h5 := Box.new (((((w.alloc (.cells #[.int .i64 (-1)] 3)).alloc (.cells #[.int .i64 5, .int .i64 0] 3)).alloc (.cells #[.int .i64 0] 3)).alloc (.cells #[.int .i64 1, .int .i64 2] 3)).alloc (.cells (clA w.heap.size (w.heap.size + 1) (w.heap.size + 1 + 1) (w.heap.size + 1 + 1 + 1)).toArray 39)) [.slice (some ⟨w.heap.size + 1 + 1 + 1 + 1, 0, none⟩) 2 2, .int .i64 1] 24
  simp only [size_alloc] at h1 h2 h3 h4 h5
  refine ⟨h5, grA (h4.alloc _) (((((h0.alloc _).alloc _).alloc _).alloc _).alloc _) ((((h1.alloc _).alloc _).alloc _).alloc _) (((h2.alloc _).alloc _).alloc _) ((h3.alloc _).alloc _) (Nat.le_refl _), ?_⟩
  have b0 := below_alloc w (.cells #[.int .i64 (-1)] 3)
  have b1 := b0.alloc b0.size (.cells #[.int .i64 5, .int .i64 0] 3)
  have b2 := b1.alloc b1.size (.cells #[.int .i64 0] 3)
  have b3 := b2.alloc b2.size (.cells #[.int .i64 1, .int .i64 2] 3)
  have b4 := b3.alloc b3.size (.cells (clA w.heap.size (w.heap.size + 1) (w.heap.size + 1 + 1) (w.heap.size + 1 + 1 + 1)).toArray 39)
  exact b4.alloc b4.size _
/-- what the operations of 'l, s := need.All(..)' yield -/
def AT (g n : Nat) (i : Nat) (v : Value) (W : World) : Prop := match i with
  | 0 => v = .agg #[.slice (some ⟨g, 0, none⟩) 2 2, .int .i64 1]
  | 1 => v = rv ⟨0, 0, 1, 1⟩
  | 2 => ∃ O, n ≤ O ∧ v = .tuple #[.slice (some ⟨O, 0, none⟩) 2 2, rv ⟨-6, -2, -3, 3⟩] ∧ Box W O (rcs [⟨-1, -2, 2, 3⟩, ⟨0, 0, 1, 1⟩])
  | 3 => ∃ O, n ≤ O ∧ v = .tuple #[.slice (some ⟨O, 0, none⟩) 2 2, rv ⟨-6, -2, -3, 3⟩] ∧ Box W O (rcs [⟨-1, -2, 2, 3⟩, ⟨0, 0, 1, 1⟩])
  | 4 => ∃ O, n ≤ O ∧ v = .slice (some ⟨O, 0, none⟩) 2 2 ∧ Box W O (rcs [⟨-1, -2, 2, 3⟩, ⟨0, 0, 1, 1⟩])
  | 5 => v = rv ⟨-6, -2, -3, 3⟩
  | 6 => ∃ q, n ≤ q ∧ v = .pointer (some ⟨q, 0, none⟩) ∧ Box W q (cl4 ⟨0, 0, 0, 0⟩)
  | 7 => ∃ O, n ≤ O ∧ v = .slice (some ⟨O, 0, none⟩) 2 2 ∧ Box W O (rcs [⟨-1, -2, 2, 3⟩, ⟨0, 0, 1, 1⟩])
  | _ => True
theorem AT.stab {g n : Nat} (i : Nat) (v : Value) (W W' : World) (h : AT g n i v W) (hb : Below W.heap.size W W') : AT g n i v W' := by
  match i, h with
  | 0, h => exact h
  | 1, h => exact h
  | 2, ⟨b, h1, h2, h3⟩ => exact ⟨b, h1, h2, h3.call hb⟩
  | 3, ⟨b, h1, h2, h3⟩ => exact ⟨b, h1, h2, h3.call hb⟩
  | 4, ⟨b, h1, h2, h3⟩ => exact ⟨b, h1, h2, h3.call hb⟩
  | 5, h => exact h
  | 6, ⟨b, h1, h2, h3⟩ => exact ⟨b, h1, h2, h3.call hb⟩
  | 7, ⟨b, h1, h2, h3⟩ => exact ⟨b, h1, h2, h3.call hb⟩
  | _ + 8, _ => trivial
theorem box_ne {W : World} {g b : Nat} {cs ds : List Value} {u v : Value} (h1 : Box W g cs) (h2 : Box W b ds) (hu : cs[0]? = some u) (hv : ds[0]? = some v) (hne : u ≠ v) : b ≠ g := fun e => by
  subst e
  have a := h1.cell 0 hu
  have c := h2.cell 0 hv
  rw [a] at c
  exact hne (Option.some.inj c)
set_option maxRecDepth 4000 in
set_option maxHeartbeats 3200000 in
theorem awake14_c (w : World) : Calls Tryd.prog 6 #[] w (PPost w (.bool true)) := by
  have H0 : Hid (AwW w ((((((w.alloc (.cells #[.int .i64 (-1)] 3)).alloc (.cells #[.int .i64 5, .int .i64 0] 3)).alloc (.cells #[.int .i64 0] 3)).alloc (.cells #[.int .i64 1, .int .i64 2] 3)).alloc (.cells #[.int .i64 1, .slice (some ⟨w.heap.size, 0, none⟩) 1 1, .slice (some ⟨w.heap.size + 1, 0, none⟩) 2 2, .int .i64 2, .slice (some ⟨w.heap.size + 1 + 1, 0, none⟩) 1 1, .slice (some ⟨w.heap.size + 1 + 1 + 1, 0, none⟩) 2 2] 39)).alloc (.cells #[.slice (some ⟨w.heap.size + 1 + 1 + 1 + 1, 0, none⟩) 2 2, .int .i64 1] 24))) := AwW.new w
  go_enter Tryd.func6, Tryd.ntmps6
  go_wp2_with fail
  rename_i K hK
  generalize ((((((w.alloc (.cells #[.int .i64 (-1)] 3)).alloc (.cells #[.int .i64 5, .int .i64 0] 3)).alloc (.cells #[.int .i64 0] 3)).alloc (.cells #[.int .i64 1, .int .i64 2] 3)).alloc (.cells #[.int .i64 1, .slice (some ⟨w.heap.size, 0, none⟩) 1 1, .slice (some ⟨w.heap.size + 1, 0, none⟩) 2 2, .int .i64 2, .slice (some ⟨w.heap.size + 1 + 1, 0, none⟩) 1 1, .slice (some ⟨w.heap.size + 1 + 1 + 1, 0, none⟩) 2 2] 39)).alloc (.cells #[.slice (some ⟨w.heap.size + 1 + 1 + 1 + 1, 0, none⟩) 2 2, .int .i64 1] 24)) = W0 at *
  obtain ⟨G, hG⟩ : ∃ G, G = w.heap.size + 1 + 1 + 1 + 1 := ⟨_, rfl⟩
  unfold AwW at H0
  rw [← hG] at H0 ⊢
  clear hG
  have g0 := H0.out.1.cell 0 rfl
  have g1 := H0.out.1.cell 1 rfl
  refine wp_region_mono (AT G W0.heap.size) 8 _ rfl rfl (by kernel_rfl) (by kernel_rfl) AT.stab ?hop ?hlast
  case hop =>
    refine Each.get (n := 8) ⟨⟨⟨⟨⟨⟨⟨⟨trivial, ?h0⟩, ?h1⟩, ?h2⟩, ?h3⟩, ?h4⟩, ?h5⟩, ?h6⟩, ?h7⟩
    case h0 =>
      refine OpOk.plain (by kernel_rfl) _ rfl rfl fun vs ev W hf hb hd => ?_
      have e : ev (.tmp 1) = .pointer (some ⟨G + 1, 0, none⟩) := hf.off 1 rfl
      have d0 := (hb.cell (lt_of_cell g0)).trans g0
      have d1 := (hb.cell (lt_of_cell g1)).trans g1
      clear hK
      exact gives_mono (R := fun v w' => v = .agg #[.slice (some ⟨G, 0, none⟩) 2 2, .int .i64 1] ∧ w' = W) (by simp [gives, go_sem, e, d0, d1]) fun _ _ ⟨h1, h2⟩ => by subst h2; exact ⟨h1, Below.refl _ _⟩
    case h1 =>
      refine OpOk.plain (by kernel_rfl) _ rfl rfl fun vs ev W hf hb hd => ?_
      refine gives_mono (R := fun v w' => v = rv ⟨0, 0, 1, 1⟩ ∧ Below W.heap.size W w') ?_ (fun _ _ ⟨h1, h2⟩ => ⟨h1, h2⟩)
      have hc := of14_c 0 0 1 1 W
      have e4 := hf.func 14
      have e5 := hf.const (.int .i64 0)
      have e6 := hf.const (.int .i64 1)
      clear hK
      simp [gives, execOp, resolve, invoke, e4, e5, e6, go_sem]
      exact hc.mono fun e w' h => ⟨_, h.1, rfl, h.2⟩
    case h2 =>
      refine OpOk.plain (by kernel_rfl) _ rfl rfl fun vs ev W hf hb hd => ?_
      have h0 := hd 0 (by kernel_rfl)
      have h1 := hd 1 (by kernel_rfl)
      have e0 : ev (.tmp 13) = .agg #[.slice (some ⟨G, 0, none⟩) 2 2, .int .i64 1] := (hf.of 0 _ 13 rfl rfl rfl (of_decide_eq_true rfl)).trans h0
      have e1 : ev (.tmp 14) = rv ⟨0, 0, 1, 1⟩ := (hf.of 1 _ 14 rfl rfl rfl (of_decide_eq_true rfl)).trans h1
      refine gives_mono (R := fun v w' => ∃ e, e = Ending.returned v ∧ NaPost W 2 (allN ndA ⟨0, 0, 1, 1⟩ 1) e w') ?_ ?_
      · have hc := all14_c W0.heap.size (.slice (some ⟨G, 0, none⟩) 2 2) ndA 1 ⟨0, 0, 1, 1⟩ W goodA (H0.out.2.1.below hb (Nat.le_refl _)) hb.size rcA
        clear hK
        have e4 := hf.func 9
        simp [gives, execOp, resolve, invoke, e0, e1, e4, go_sem]
        exact hc.mono fun e w' h => by
          obtain ⟨O, hO, he, h2⟩ := h
          exact ⟨_, he, O, hO, rfl, h2⟩
      · rintro v w' ⟨e, he, O, hO, he2, h2, h3⟩
        rw [he] at he2
        cases he2
        rw [allA.1] at h2
        rw [allA.2]
        exact ⟨⟨O, Nat.le_trans hb.size hO, rfl, h2⟩, h3⟩
    case h3 =>
      refine OpOk.plain (by kernel_rfl) _ rfl rfl fun vs ev W hf hb hd => ?_
      obtain ⟨O, h1, h2, h3⟩ := hd 2 (by kernel_rfl)
      have e1 := (hf.of 2 _ 15 rfl rfl rfl (of_decide_eq_true rfl)).trans h2
      clear hK
      refine gives_mono (R := fun v w' => v = .tuple #[.slice (some ⟨O, 0, none⟩) 2 2, rv ⟨-6, -2, -3, 3⟩] ∧ w' = W) (by simp [gives, go_sem, e1]) ?_
      rintro _ _ ⟨rfl, rfl⟩
      exact ⟨⟨O, h1, rfl, h3⟩, Below.refl _ _⟩
    case h4 =>
      refine OpOk.plain (by kernel_rfl) _ rfl rfl fun vs ev W hf hb hd => ?_
      obtain ⟨O, h1, h2, h3⟩ := hd 3 (by kernel_rfl)
      have e1 := (hf.of 3 _ 12 rfl rfl rfl (of_decide_eq_true rfl)).trans h2
      clear hK
      refine gives_mono (R := fun v w' => v = .slice (some ⟨O, 0, none⟩) 2 2 ∧ w' = W) (by simp [gives, go_sem, e1]) ?_
      rintro _ _ ⟨rfl, rfl⟩
      exact ⟨⟨O, h1, rfl, h3⟩, Below.refl _ _⟩
    case h5 =>
      refine OpOk.plain (by kernel_rfl) _ rfl rfl fun vs ev W hf hb hd => ?_
      obtain ⟨O, h1, h2, h3⟩ := hd 3 (by kernel_rfl)
      have e1 := (hf.of 3 _ 12 rfl rfl rfl (of_decide_eq_true rfl)).trans h2
      clear hK
      refine gives_mono (R := fun v w' => v = rv ⟨-6, -2, -3, 3⟩ ∧ w' = W) (by simp [gives, go_sem, e1]) ?_
      rintro _ _ ⟨rfl, rfl⟩
      exact ⟨rfl, Below.refl _ _⟩
    case h6 =>
      refine OpOk.plain (by kernel_rfl) _ rfl rfl fun vs ev W hf hb hd => ?_
      clear hK
      refine gives_mono (R := fun v w' => v = .pointer (some ⟨W.heap.size, 0, none⟩) ∧ w' = W.alloc (.cells (cs4 0 0 0 0) 26)) (by simp [gives, go_sem]) ?_
      rintro _ _ ⟨rfl, rfl⟩
      exact ⟨⟨_, hb.size, rfl, Box.new W _ _⟩, below_alloc _ _⟩
    case h7 =>
      refine OpOk.plain (by kernel_rfl) _ rfl rfl fun vs ev W hf hb hd => ?_
      obtain ⟨O, h1, h2, h3⟩ := hd 4 (by kernel_rfl)
      have e1 := (hf.of 4 _ 16 rfl rfl rfl (of_decide_eq_true rfl)).trans h2
      clear hK
      refine gives_mono (R := fun v w' => v = .slice (some ⟨O, 0, none⟩) 2 2 ∧ w' = W) (by simp [gives, go_sem, e1]) ?_
      rintro _ _ ⟨rfl, rfl⟩
      exact ⟨⟨O, h1, rfl, h3⟩, Below.refl _ _⟩
  case hlast =>
    intro vs W hb hT
    have h5 : vs 5 = rv ⟨-6, -2, -3, 3⟩ := hT 5 (by decide)
    obtain ⟨q, n6, h6, x6⟩ := hT 6 (by decide)
    obtain ⟨O, n7, h7, x7⟩ := hT 7 (by decide)
    refine last_plain (by kernel_rfl) rfl fun F ev hF hf => ?_
    have e1 := (hf.of 5 _ 17 rfl rfl rfl (of_decide_eq_true rfl)).trans h5
    have e2 := (hf.of 6 _ 3 rfl rfl rfl (of_decide_eq_true rfl)).trans h6
    obtain ⟨q0, q1, q2, q3⟩ := box4 x6
    have f0 := x6.frozen 0
    have f1 := x6.frozen 1
    have f2 := x6.frozen 2
    have f3 := x6.frozen 3
    have H3 : Hid (Box ((((W.setCell ⟨q, 0, none⟩ (.int .i64 (-6))).setCell ⟨q, 1, none⟩ (.int .i64 (-2))).setCell ⟨q, 2, none⟩ (.int .i64 (-3))).setCell ⟨q, 3, none⟩ (.int .i64 3)) O (rcs [⟨-1, -2, 2, 3⟩, ⟨0, 0, 1, 1⟩]) ∧ Box ((((W.setCell ⟨q, 0, none⟩ (.int .i64 (-6))).setCell ⟨q, 1, none⟩ (.int .i64 (-2))).setCell ⟨q, 2, none⟩ (.int .i64 (-3))).setCell ⟨q, 3, none⟩ (.int .i64 3)) q (cl4 ⟨-6, -2, -3, 3⟩) ∧ Below w.heap.size w ((((W.setCell ⟨q, 0, none⟩ (.int .i64 (-6))).setCell ⟨q, 1, none⟩ (.int .i64 (-2))).setCell ⟨q, 2, none⟩ (.int .i64 (-3))).setCell ⟨q, 3, none⟩ (.int .i64 3))) := by
      have hne : O ≠ q := box_ne x6 x7 rfl rfl (by simp)
      have hs : w.heap.size ≤ q := by have := H0.out.2.2.size; omega
      have b := H0.out.2.2.trans (hb.mono H0.out.2.2.size)
      exact ⟨(((x7.set hne _).set hne _).set hne _).set hne _, set4_box x6 _ _ _ _, (((b.setCell hs _).setCell hs _).setCell hs _).setCell hs _⟩
    refine gives_mono (R := fun v w' => v = undef ∧ w' = ((((W.setCell ⟨q, 0, none⟩ (.int .i64 (-6))).setCell ⟨q, 1, none⟩ (.int .i64 (-2))).setCell ⟨q, 2, none⟩ (.int .i64 (-3))).setCell ⟨q, 3, none⟩ (.int .i64 3))) (by simp [gives, go_sem, e1, e2, q0, q1, q2, q3, f0, f1, f2, f3]) ?_
    rintro _ _ ⟨rfl, rfl⟩
    subst hF
    simp [fr, Act.put, h6, h7]
    generalize vs 0 = v0 at *
    generalize vs 1 = v1 at *
    generalize vs 2 = v2 at *
    generalize vs 3 = v3 at *
    generalize vs 4 = v4 at *
    generalize vs 5 = v5 at *
    clear hT hf h5 h6 h7 e1 e2
    refine hK _ _ ?_
    clear hK q0 q1 q2 q3 f0 f1 f2 f3 hb n6 n7 x6 x7 g0 g1 H0
    generalize ((((W.setCell ⟨q, 0, none⟩ (.int .i64 (-6))).setCell ⟨q, 1, none⟩ (.int .i64 (-2))).setCell ⟨q, 2, none⟩ (.int .i64 (-3))).setCell ⟨q, 3, none⟩ (.int .i64 3)) = W3 at *
    clear W
    have hq0 : ∀ W, (binOp .eql 26 (.agg #[.int .i64 (-1), .int .i64 (-2), .int .i64 2, .int .i64 3]) (.agg #[.int .i64 (-1), .int .i64 (-2), .int .i64 2, .int .i64 3])).run Tryd.prog W = .ok (.bool true) W := fun W => eqlR _ _ _ _ W
    have hq1 : ∀ W, (binOp .eql 26 (.agg #[.int .i64 0, .int .i64 0, .int .i64 1, .int .i64 1]) (.agg #[.int .i64 0, .int .i64 0, .int .i64 1, .int .i64 1])).run Tryd.prog W = .ok (.bool true) W := fun W => eqlR _ _ _ _ W
    have hq2 : ∀ W, (binOp .eql 26 (.agg #[.int .i64 (-6), .int .i64 (-2), .int .i64 (-3), .int .i64 3]) (.agg #[.int .i64 (-6), .int .i64 (-2), .int .i64 (-3), .int .i64 3])).run Tryd.prog W = .ok (.bool true) W := fun W => eqlR _ _ _ _ W
    have HN : Hid (∀ s : Kept W3.heap.size W3, Calls Tryd.prog 14 #[.int .i64 (-1), .int .i64 (-2), .int .i64 2, .int .i64 3] s.w (PPost s.w (.agg #[.int .i64 (-1), .int .i64 (-2), .int .i64 2, .int .i64 3])) ∧ Calls Tryd.prog 14 #[.int .i64 0, .int .i64 0, .int .i64 1, .int .i64 1] s.w (PPost s.w (.agg #[.int .i64 0, .int .i64 0, .int .i64 1, .int .i64 1])) ∧ Calls Tryd.prog 14 #[.int .i64 (-6), .int .i64 (-2), .int .i64 (-3), .int .i64 3] s.w (PPost s.w (.agg #[.int .i64 (-6), .int .i64 (-2), .int .i64 (-3), .int .i64 3]))) := fun s => ⟨of14_c _ _ _ _ s.w, of14_c _ _ _ _ s.w, of14_c _ _ _ _ s.w⟩
    obtain ⟨a0, a1, a2, a3⟩ := rbox_get H3.out.1 (i := 0) (r := ⟨-1, -2, 2, 3⟩) rfl
    obtain ⟨b0, b1, b2, b3⟩ := rbox_get H3.out.1 (i := 1) (r := ⟨0, 0, 1, 1⟩) rfl
    obtain ⟨c0, c1, c2, c3⟩ := box4 H3.out.2.1
    have k0 := fun s : Kept W3.heap.size W3 => s.at a0
    have k1 := fun s : Kept W3.heap.size W3 => s.at a1
    have k2 := fun s : Kept W3.heap.size W3 => s.at a2
    have k3 := fun s : Kept W3.heap.size W3 => s.at a3
    have k4 := fun s : Kept W3.heap.size W3 => s.at b0
    have k5 := fun s : Kept W3.heap.size W3 => s.at b1
    have k6 := fun s : Kept W3.heap.size W3 => s.at b2
    have k7 := fun s : Kept W3.heap.size W3 => s.at b3
    have k8 := fun s : Kept W3.heap.size W3 => s.at c0
    have k9 := fun s : Kept W3.heap.size W3 => s.at c1
    have k10 := fun s : Kept W3.heap.size W3 => s.at c2
    have k11 := fun s : Kept W3.heap.size W3 => s.at c3
    clear a0 a1 a2 a3 b0 b1 b2 b3 c0 c1 c2 c3
    simp only [Nat.zero_mul, Nat.one_mul, Nat.zero_add] at k0 k1 k2 k3 k4 k5 k6 k7
    go_wp2_with fail
    refine wp_region_kept W3.heap.size (by kernel_rfl) (by kernel_rfl) ?_
    repeat (go_big_quiet_step (first
      | (go_at_call 14; with_reducible exact Calls.kept _ (Nat.le_refl _) (HN.out _).1)
      | (go_at_call 14; with_reducible exact Calls.kept _ (Nat.le_refl _) (HN.out _).2.1)
      | (go_at_call 14; with_reducible exact Calls.kept _ (Nat.le_refl _) (HN.out _).2.2)))
    refine wpQuiet_nil ?_
    rintro _ ⟨s, rfl⟩
    have HE : Hid (Below w.heap.size w s.w) := H3.out.2.2.trans (s.below.mono H3.out.2.2.size)
    go_wp2_with fail
    go_ret
    exact ⟨rfl, HE.out⟩
end Go.Proofs.YtfjeohnigikmoaaDoor
