/- Layer 16: awake. -/
import Derived.Test.YtijkcpkljmpplaaDoorPl
import Derived.Test.YtijkcpkljmpplaaDoorArN0
namespace Go.Proofs.YtijkcpkljmpplaaDoor
open Go.RowKit Go.Bx Go.Od Go.Hp
attribute [local go_sem ↓] Go.wp_at_zero Go.wp_at_succ
set_option linter.unusedVariables false

def ndA (i2 : List Int) : List Nd := [⟨6, [], [0, 0, 0, 255, 0, 0, 1, 1]⟩, ⟨5, [0], List.replicate 20 0⟩, ⟨7, i2, [0]⟩]
theorem sl_box {W : World} {b B n : Nat} {xs : List Int} (h : Box W b (xs.map (Value.int .i64))) (hn : n = xs.length) (hx : ∀ x ∈ xs, In64 x) (hb : b < B) (hl : n ≤ maxLen) : SlOf RInt 1 (· < B) W (.slice (some ⟨b, 0, none⟩) n n) xs := by
  subst hn
  refine ⟨_, xs.length, rfl, Nat.le_refl _, hl, .inr ⟨b, 0, rfl, hb, fun i x hi => ?_⟩⟩
  refine ⟨[.int .i64 x], rfl, fun j u hu => ?_, rfl, hx x (List.mem_of_getElem? hi)⟩
  cases j with
  | zero =>
    simp at hu
    subst hu
    simp only [Nat.mul_one, Nat.zero_add, Nat.add_zero]
    exact h.cell i (by simp [hi])
  | succ j => simp at hu
theorem in_small {x : Int} (h : -1000 ≤ x ∧ x ≤ 1000) : In64 x := by unfold In64; omega
/-- the cells of the nodes -/
def clA (p b c d e : Nat) : List Value := [.int .i64 6, .slice none 0 0, .slice (some ⟨p, 0, none⟩) 8 8, .int .i64 5, .slice (some ⟨b, 0, none⟩) 1 1, .slice (some ⟨c, 0, none⟩) 20 20, .int .i64 7, .slice (some ⟨d, 0, none⟩) 2 2, .slice (some ⟨e, 0, none⟩) 1 1]
theorem grA {W : World} {g p b c d e B : Nat} {x y : Int} (hg : Box W g (clA p b c d e)) (hp : Box W p ([0, 0, 0, 255, 0, 0, 1, 1].map (Value.int .i64))) (hb : Box W b ([0].map (Value.int .i64))) (hc : Box W c ((List.replicate 20 0).map (Value.int .i64))) (hd : Box W d ([x, y].map (Value.int .i64))) (he : Box W e ([0].map (Value.int .i64)))
    (hx : -1000 ≤ x ∧ x ≤ 1000) (hy : -1000 ≤ y ∧ y ≤ 1000) (hB : W.heap.size ≤ B) : Gr B W (.slice (some ⟨g, 0, none⟩) 3 3) (ndA [x, y]) := by
  refine ⟨_, 3, rfl, Nat.le_refl _, by decide, .inr ⟨g, 0, rfl, Nat.lt_of_lt_of_le hg.lt hB, fun i x' hi => ?_⟩⟩
  have sm : ∀ z ∈ ([0] : List Int), In64 z := fun z hz => in_small (by simp at hz; omega)
  match i, hi with
  | 0, hi =>
    simp [ndA] at hi; subst hi
    exact ⟨_, rfl, lies3 hg 0 rfl rfl rfl, _, _, rfl, in_small (by decide), sl_nil _ _, sl_box hp rfl (fun z hz => in_small (by simp at hz; omega)) (Nat.lt_of_lt_of_le hp.lt hB) (by decide)⟩
  | 1, hi =>
    simp [ndA] at hi; subst hi
    exact ⟨_, rfl, lies3 hg 3 rfl rfl rfl, _, _, rfl, in_small (by decide), sl_box hb rfl sm (Nat.lt_of_lt_of_le hb.lt hB) (by decide), sl_box (xs := List.replicate 20 0) hc rfl (fun z hz => in_small (by have := List.eq_of_mem_replicate hz; omega)) (Nat.lt_of_lt_of_le hc.lt hB) (by decide)⟩
  | 2, hi =>
    simp [ndA] at hi; subst hi
    exact ⟨_, rfl, lies3 hg 6 rfl rfl rfl, _, _, rfl, in_small (x := 7) (by decide), sl_box hd rfl (fun z hz => by simp at hz; rcases hz with rfl | rfl; exact in_small hx; exact in_small hy) (Nat.lt_of_lt_of_le hd.lt hB) (by decide), sl_box he rfl sm (Nat.lt_of_lt_of_le he.lt hB) (by decide)⟩
  | i + 3, hi => simp [ndA] at hi
theorem nedA (i2 : List Int) (h1 : (1 : Int) ∈ i2) : ned (insOf (ndA i2)) 2 = fun i => decide (i < 3) := by
  have r2 : Ned (insOf (ndA i2)) 2 2 := ⟨by decide, by simp [ndA, insOf], .base⟩
  have r1 : Ned (insOf (ndA i2)) 2 1 := r2.next ((inp_mem _ _ _).2 ⟨by simp [ndA, insOf], by simpa [ndA, insOf] using h1⟩)
  have r0 : Ned (insOf (ndA i2)) 2 0 := r1.next ((inp_mem _ _ _).2 ⟨by simp [ndA, insOf], by simp [ndA, insOf]⟩)
  funext i
  by_cases hi : i < 3
  · rw [decide_eq_true hi]
    refine (ned_iff _ _ _).2 ?_
    match i, hi with
    | 0, _ => exact r0
    | 1, _ => exact r1
    | 2, _ => exact r2
  · rw [decide_eq_false hi]
    cases e : ned (insOf (ndA i2)) 2 i with
    | false => rfl
    | true =>
      have := ((ned_iff _ _ _).1 e).lt
      simp [ndA, insOf] at this
      omega
theorem gA1 : gsF (ldM (ndA [1, -1]) 2 true) (ord (insOf (ndA [1, -1]))) = [[0, 1, 2]] := by
  unfold ldM
  rw [nedA _ (by simp)]
  decide
theorem gA2 : gsF (ldM (ndA [1, -1]) 2 false) (ord (insOf (ndA [1, -1]))) = [[0], [1], [2]] := by
  unfold ldM
  rw [nedA _ (by simp)]
  decide
theorem gA3 : gsF (ldM (ndA [1, 0]) 2 true) (ord (insOf (ndA [1, 0]))) = [[0], [1, 2]] := by
  unfold ldM
  rw [nedA _ (by simp)]
  decide
theorem shortA (x y : Int) : ∀ i, i < (ndA [x, y]).length → ((ndA [x, y]).getD i Nd.none).ins.length ≤ 1000 := fun i hi => by
  match i, hi with
  | 0, _ => simp [ndA]
  | 1, _ => simp [ndA]
  | 2, _ => simp [ndA]
/-- what the operations of 'g := ..' yield -/
def AT (n p : Nat) (i : Nat) (v : Value) (W : World) : Prop := match i with
  | 0 => v = .agg #[.int .i64 6, .slice none 0 0, .slice (some ⟨p, 0, none⟩) 8 8]
  | 1 => ∃ b, v = .slice (some ⟨b, 0, none⟩) 1 1 ∧ n ≤ b ∧ Box W b ([0].map (Value.int .i64))
  | 2 => ∃ b, v = .slice (some ⟨b, 0, none⟩) 20 20 ∧ n ≤ b ∧ Box W b ((List.replicate 20 0).map (Value.int .i64))
  | 3 => ∃ b c, v = .agg #[.int .i64 5, .slice (some ⟨b, 0, none⟩) 1 1, .slice (some ⟨c, 0, none⟩) 20 20] ∧ n ≤ b ∧ n ≤ c ∧ Box W b ([0].map (Value.int .i64)) ∧ Box W c ((List.replicate 20 0).map (Value.int .i64))
  | 4 => ∃ b, v = .slice (some ⟨b, 0, none⟩) 2 2 ∧ n ≤ b ∧ Box W b ([1, -1].map (Value.int .i64))
  | 5 => ∃ b, v = .slice (some ⟨b, 0, none⟩) 1 1 ∧ n ≤ b ∧ Box W b ([0].map (Value.int .i64))
  | 6 => ∃ b c, v = .agg #[.int .i64 7, .slice (some ⟨b, 0, none⟩) 2 2, .slice (some ⟨c, 0, none⟩) 1 1] ∧ n ≤ b ∧ n ≤ c ∧ Box W b ([1, -1].map (Value.int .i64)) ∧ Box W c ([0].map (Value.int .i64))
  | 7 => ∃ g b c d e, v = .slice (some ⟨g, 0, none⟩) 3 3 ∧ (n ≤ g ∧ n ≤ b ∧ n ≤ c ∧ n ≤ d ∧ n ≤ e) ∧ Box W g (clA p b c d e) ∧ Box W b ([0].map (Value.int .i64)) ∧ Box W c ((List.replicate 20 0).map (Value.int .i64)) ∧ Box W d ([1, -1].map (Value.int .i64)) ∧ Box W e ([0].map (Value.int .i64))
  | 8 => ∃ g b c d e, v = .agg #[.slice (some ⟨g, 0, none⟩) 3 3, .int .i64 2] ∧ (n ≤ g ∧ n ≤ b ∧ n ≤ c ∧ n ≤ d ∧ n ≤ e) ∧ Box W g (clA p b c d e) ∧ Box W b ([0].map (Value.int .i64)) ∧ Box W c ((List.replicate 20 0).map (Value.int .i64)) ∧ Box W d ([1, -1].map (Value.int .i64)) ∧ Box W e ([0].map (Value.int .i64))
  | 9 => ∃ g, v = .pointer (some ⟨g, 0, none⟩) ∧ n ≤ g ∧ Box W g [.slice none 0 0, .int .i64 0]
  | _ => True
theorem AT.stab {n p : Nat} (i : Nat) (v : Value) (W W' : World) (h : AT n p i v W) (hb : Below W.heap.size W W') : AT n p i v W' := by
  match i, h with
  | 0, h => exact h
  | 1, ⟨b, h1, h2, h3⟩ => exact ⟨b, h1, h2, h3.call hb⟩
  | 2, ⟨b, h1, h2, h3⟩ => exact ⟨b, h1, h2, h3.call hb⟩
  | 3, ⟨b, c, h1, h2, h3, h4, h5⟩ => exact ⟨b, c, h1, h2, h3, h4.call hb, h5.call hb⟩
  | 4, ⟨b, h1, h2, h3⟩ => exact ⟨b, h1, h2, h3.call hb⟩
  | 5, ⟨b, h1, h2, h3⟩ => exact ⟨b, h1, h2, h3.call hb⟩
  | 6, ⟨b, c, h1, h2, h3, h4, h5⟩ => exact ⟨b, c, h1, h2, h3, h4.call hb, h5.call hb⟩
  | 7, ⟨g, b, c, d, e, h1, h2, h3, h4, h5, h6, h7⟩ => exact ⟨g, b, c, d, e, h1, h2, h3.call hb, h4.call hb, h5.call hb, h6.call hb, h7.call hb⟩
  | 8, ⟨g, b, c, d, e, h1, h2, h3, h4, h5, h6, h7⟩ => exact ⟨g, b, c, d, e, h1, h2, h3.call hb, h4.call hb, h5.call hb, h6.call hb, h7.call hb⟩
  | 9, ⟨g, h1, h2, h3⟩ => exact ⟨g, h1, h2, h3.call hb⟩
  | _ + 10, _ => trivial
theorem box_ne {W : World} {g b : Nat} {cs ds : List Value} {u v : Value} (h1 : Box W g cs) (h2 : Box W b ds) (hu : cs[0]? = some u) (hv : ds[0]? = some v) (hne : u ≠ v) : b ≠ g := fun e => by
  subst e
  have a := h1.cell 0 hu
  have c := h2.cell 0 hv
  rw [a] at c
  exact hne (Option.some.inj c)
/-- a row of rows: its cells -/
theorem GU.at {B : Nat} {G : List (List Nat)} {a : Option Addr} {n c : Nat} {vs : List Value} {W : World} (h : GU B G (.slice a n c) vs W) (hn : n = G.length) {r : Nat} (hr : r < n) : ∃ g x y, a = some ⟨g, 0, none⟩ ∧ W.cell? ⟨g, r, none⟩ = some (.slice x (G.getD r []).length y) ∧ OwnP W B (.slice x (G.getD r []).length y) (ofN (G.getD r [])) := by
  subst hn
  have h1 := h.inner r hr
  obtain ⟨x, y, hv⟩ := own_sl h1
  rcases h.own.2 with ⟨_, h0⟩ | ⟨g, cap, cur, he, _⟩
  · omega
  · cases he
    refine ⟨g, x, y, rfl, ?_, hv ▸ h1⟩
    have h2 := World.ownsRow.cellAt h.own r (by omega)
    rw [h2, ← hv]
    have := h.own.1
    have hlr : r < vs.length := by omega
    simp [hlr]

set_option maxRecDepth 4000 in
set_option maxHeartbeats 3200000 in
theorem awake16_c (w : World) : Calls Tryd.prog 7 #[] w (PPost w (.bool true)) := by
  go_enter Tryd.func7, Tryd.ntmps7
  go_wp2_with fail
  rename_i K hK
  have P0 : Box ((w.alloc (.cells #[.int .i64 0, .int .i64 0, .int .i64 0, .int .i64 255, .int .i64 0, .int .i64 0, .int .i64 1, .int .i64 1] 3)).alloc (.cells #[.int .i64 6, .slice none 0 0, .slice (some ⟨w.heap.size, 0, none⟩) 8 8] 36)) w.heap.size ([0, 0, 0, 255, 0, 0, 1, 1].map (Value.int .i64)) := (Box.new w _ _).alloc _
  have N0 : Box ((w.alloc (.cells #[.int .i64 0, .int .i64 0, .int .i64 0, .int .i64 255, .int .i64 0, .int .i64 0, .int .i64 1, .int .i64 1] 3)).alloc (.cells #[.int .i64 6, .slice none 0 0, .slice (some ⟨w.heap.size, 0, none⟩) 8 8] 36)) (w.heap.size + 1) [.int .i64 6, .slice none 0 0, .slice (some ⟨w.heap.size, 0, none⟩) 8 8] := by
    have := Box.new (w.alloc (.cells #[.int .i64 0, .int .i64 0, .int .i64 0, .int .i64 255, .int .i64 0, .int .i64 0, .int .i64 1, .int .i64 1] 3)) [.int .i64 6, .slice none 0 0, .slice (some ⟨w.heap.size, 0, none⟩) 8 8] 36
    rw [size_alloc] at this
    exact this
  have B0 : Below w.heap.size w ((w.alloc (.cells #[.int .i64 0, .int .i64 0, .int .i64 0, .int .i64 255, .int .i64 0, .int .i64 0, .int .i64 1, .int .i64 1] 3)).alloc (.cells #[.int .i64 6, .slice none 0 0, .slice (some ⟨w.heap.size, 0, none⟩) 8 8] 36)) := (below_alloc w _).alloc (by rw [size_alloc]; omega) _
  obtain ⟨W0, hW0⟩ : ∃ W, W = ((w.alloc (.cells #[.int .i64 0, .int .i64 0, .int .i64 0, .int .i64 255, .int .i64 0, .int .i64 0, .int .i64 1, .int .i64 1] 3)).alloc (.cells #[.int .i64 6, .slice none 0 0, .slice (some ⟨w.heap.size, 0, none⟩) 8 8] 36)) := ⟨_, rfl⟩
  rw [← hW0] at P0 N0 B0 ⊢
  clear hW0
  have c0 := N0.cell 0 rfl
  have c1 := N0.cell 1 rfl
  have c2 := N0.cell 2 rfl
  have HP : Hid (Box W0 w.heap.size ([0, 0, 0, 255, 0, 0, 1, 1].map (Value.int .i64)) ∧ Below w.heap.size w W0) := ⟨P0, B0⟩
  clear P0 N0 B0
  refine wp_region_mono (AT W0.heap.size w.heap.size) 10 _ rfl rfl (by kernel_rfl) (by kernel_rfl) AT.stab ?hop ?hlast
  case hop =>
    refine Each.get (n := 10) ⟨⟨⟨⟨⟨⟨⟨⟨⟨⟨trivial, ?h0⟩, ?h1⟩, ?h2⟩, ?h3⟩, ?h4⟩, ?h5⟩, ?h6⟩, ?h7⟩, ?h8⟩, ?h9⟩
    case h0 =>
      refine OpOk.plain (by kernel_rfl) _ rfl rfl fun vs ev W hf hb hd => ?_
      have e : ev (.tmp 1) = .pointer (some ⟨w.heap.size + 1, 0, none⟩) := hf.off 1 rfl
      have d0 := (hb.cell (lt_of_cell c0)).trans c0
      have d1 := (hb.cell (lt_of_cell c1)).trans c1
      have d2 := (hb.cell (lt_of_cell c2)).trans c2
      clear hK
      exact gives_mono (R := fun v w' => v = .agg #[.int .i64 6, .slice none 0 0, .slice (some ⟨w.heap.size, 0, none⟩) 8 8] ∧ w' = W) (by simp [gives, go_sem, e, d0, d1, d2]) fun _ _ ⟨h1, h2⟩ => by subst h2; exact ⟨h1, Below.refl _ _⟩
    case h1 =>
      refine OpOk.plain (by kernel_rfl) _ rfl rfl fun vs ev W hf hb hd => ?_
      clear hK
      refine gives_mono (R := fun v w' => v = .slice (some ⟨W.heap.size, 0, none⟩) 1 1 ∧ w' = W.alloc (.cells #[.int .i64 0] 3)) (by simp [gives, go_sem, hf.const]) ?_
      rintro _ _ ⟨rfl, rfl⟩
      exact ⟨⟨_, rfl, hb.size, Box.new W _ _⟩, below_alloc _ _⟩
    case h2 =>
      refine OpOk.plain (by kernel_rfl) _ rfl rfl fun vs ev W hf hb hd => ?_
      clear hK
      obtain ⟨i3, hi3, hz0, hz1, hz2⟩ := info_parts infoI
      obtain ⟨w', hrun, r1, r2⟩ := run_make_full (P := Tryd.prog) W 0 30 3 i3 (.int .i64 0) 1 Tryd.underlying30 hi3 hz0 hz1 .i64 .i64 20 (by rw [hz2]; decide) (by decide) (Nat.zero_le _)
      have hrun' : (Instr.makeSlice 30 (.int .i64 20) (.int .i64 20)).run Tryd.prog W = .ok (.slice (some ⟨W.heap.size, 0, none⟩) 20 20) w' := hrun
      refine gives_mono (R := fun v w'' => v = .slice (some ⟨W.heap.size, 0, none⟩) 20 20 ∧ w'' = w') (by unfold gives; simp [execOp, hf.const, hrun', Result.andThen]) ?_
      rintro _ _ ⟨rfl, rfl⟩
      refine ⟨⟨_, rfl, hb.size, ?_⟩, (Below.refl _ _).grown r2 (Nat.le_refl _) fun k hk => by cases hk⟩
      have e : (madeCells (Value.int .i64 0).cells (20 * 1)).toList = (List.replicate 20 0).map (Value.int .i64) := by kernel_rfl
      have := box_own r1
      rw [e] at this
      exact this
    case h3 =>
      refine OpOk.plain (by kernel_rfl) _ rfl rfl fun vs ev W hf hb hd => ?_
      obtain ⟨b, h1, h2, h3⟩ := hd 1 (by kernel_rfl)
      obtain ⟨c, h4, h5, h6⟩ := hd 2 (by kernel_rfl)
      have e1 := (hf.of 1 _ 9 rfl rfl rfl (of_decide_eq_true rfl)).trans h1
      have e2 := (hf.of 2 _ 10 rfl rfl rfl (of_decide_eq_true rfl)).trans h4
      clear hK
      refine gives_mono (R := fun v w' => v = .agg #[.int .i64 5, .slice (some ⟨b, 0, none⟩) 1 1, .slice (some ⟨c, 0, none⟩) 20 20] ∧ w' = W) (by simp [gives, go_sem, e1, e2, hf.const]) ?_
      rintro _ _ ⟨rfl, rfl⟩
      exact ⟨⟨b, c, rfl, h2, h5, h3, h6⟩, Below.refl _ _⟩
    case h4 =>
      refine OpOk.plain (by kernel_rfl) _ rfl rfl fun vs ev W hf hb hd => ?_
      clear hK
      refine gives_mono (R := fun v w' => v = .slice (some ⟨W.heap.size, 0, none⟩) 2 2 ∧ w' = W.alloc (.cells #[.int .i64 1, .int .i64 (-1)] 3)) (by simp [gives, go_sem, hf.const]) ?_
      rintro _ _ ⟨rfl, rfl⟩
      exact ⟨⟨_, rfl, hb.size, Box.new W _ _⟩, below_alloc _ _⟩
    case h5 =>
      refine OpOk.plain (by kernel_rfl) _ rfl rfl fun vs ev W hf hb hd => ?_
      clear hK
      refine gives_mono (R := fun v w' => v = .slice (some ⟨W.heap.size, 0, none⟩) 1 1 ∧ w' = W.alloc (.cells #[.int .i64 0] 3)) (by simp [gives, go_sem, hf.const]) ?_
      rintro _ _ ⟨rfl, rfl⟩
      exact ⟨⟨_, rfl, hb.size, Box.new W _ _⟩, below_alloc _ _⟩
    case h6 =>
      refine OpOk.plain (by kernel_rfl) _ rfl rfl fun vs ev W hf hb hd => ?_
      obtain ⟨b, h1, h2, h3⟩ := hd 4 (by kernel_rfl)
      obtain ⟨c, h4, h5, h6⟩ := hd 5 (by kernel_rfl)
      have e1 := (hf.of 4 _ 12 rfl rfl rfl (of_decide_eq_true rfl)).trans h1
      have e2 := (hf.of 5 _ 13 rfl rfl rfl (of_decide_eq_true rfl)).trans h4
      clear hK
      refine gives_mono (R := fun v w' => v = .agg #[.int .i64 7, .slice (some ⟨b, 0, none⟩) 2 2, .slice (some ⟨c, 0, none⟩) 1 1] ∧ w' = W) (by simp [gives, go_sem, e1, e2, hf.const]) ?_
      rintro _ _ ⟨rfl, rfl⟩
      exact ⟨⟨b, c, rfl, h2, h5, h3, h6⟩, Below.refl _ _⟩
    case h7 =>
      refine OpOk.plain (by kernel_rfl) _ rfl rfl fun vs ev W hf hb hd => ?_
      have h0 := hd 0 (by kernel_rfl)
      obtain ⟨b, c, h1, h2, h3, h4, h5⟩ := hd 3 (by kernel_rfl)
      obtain ⟨d, e, h6, h7, h8, h9, h10⟩ := hd 6 (by kernel_rfl)
      have e0 := (hf.of 0 _ 8 rfl rfl rfl (of_decide_eq_true rfl)).trans h0
      have e1 := (hf.of 3 _ 11 rfl rfl rfl (of_decide_eq_true rfl)).trans h1
      have e2 := (hf.of 6 _ 14 rfl rfl rfl (of_decide_eq_true rfl)).trans h6
      clear hK
      refine gives_mono (R := fun v w' => v = .slice (some ⟨W.heap.size, 0, none⟩) 3 3 ∧ w' = W.alloc (.cells #[.int .i64 6, .slice none 0 0, .slice (some ⟨w.heap.size, 0, none⟩) 8 8, .int .i64 5, .slice (some ⟨b, 0, none⟩) 1 1, .slice (some ⟨c, 0, none⟩) 20 20, .int .i64 7, .slice (some ⟨d, 0, none⟩) 2 2, .slice (some ⟨e, 0, none⟩) 1 1] 36)) (by simp [gives, go_sem, e0, e1, e2]) ?_
      rintro _ _ ⟨rfl, rfl⟩
      exact ⟨⟨W.heap.size, b, c, d, e, rfl, ⟨hb.size, h2, h3, h7, h8⟩, Box.new W _ _, h4.alloc _, h5.alloc _, h9.alloc _, h10.alloc _⟩, below_alloc _ _⟩
    case h8 =>
      refine OpOk.plain (by kernel_rfl) _ rfl rfl fun vs ev W hf hb hd => ?_
      obtain ⟨g, b, c, d, e, h1, h2⟩ := hd 7 (by kernel_rfl)
      have e1 := (hf.of 7 _ 15 rfl rfl rfl (of_decide_eq_true rfl)).trans h1
      clear hK
      refine gives_mono (R := fun v w' => v = .agg #[.slice (some ⟨g, 0, none⟩) 3 3, .int .i64 2] ∧ w' = W) (by simp [gives, go_sem, e1, hf.const]) ?_
      rintro _ _ ⟨rfl, rfl⟩
      exact ⟨⟨g, b, c, d, e, rfl, h2⟩, Below.refl _ _⟩
    case h9 =>
      refine OpOk.plain (by kernel_rfl) _ rfl rfl fun vs ev W hf hb hd => ?_
      clear hK
      refine gives_mono (R := fun v w' => v = .pointer (some ⟨W.heap.size, 0, none⟩) ∧ w' = W.alloc (.cells #[.slice none 0 0, .int .i64 0] 24)) (by simp [gives, go_sem]) ?_
      rintro _ _ ⟨rfl, rfl⟩
      exact ⟨⟨_, rfl, hb.size, Box.new W _ _⟩, below_alloc _ _⟩
  case hlast =>
    intro vs W hb hT
    obtain ⟨g, b, c, d, e, h1, ⟨n1, n2, n3, n4, n5⟩, xg, xb, xc, xd, xe⟩ := hT 8 (by decide)
    obtain ⟨gg, h4, h5, x0⟩ := hT 9 (by decide)
    refine last_plain (by kernel_rfl) rfl fun F ev hF hf => ?_
    have e1 := (hf.of 8 _ 16 rfl rfl rfl (of_decide_eq_true rfl)).trans h1
    have e2 := (hf.of 9 _ 2 rfl rfl rfl (of_decide_eq_true rfl)).trans h4
    have q0 := x0.cell 0 rfl
    have q1 := x0.cell 1 rfl
    have f0 := x0.frozen 0
    have f1 := x0.frozen 1
    refine gives_mono (R := fun v w' => v = undef ∧ w' = (W.setCell ⟨gg, 0, none⟩ (.slice (some ⟨g, 0, none⟩) 3 3)).setCell ⟨gg, 1, none⟩ (.int .i64 2)) (by simp [gives, go_sem, e1, e2, q0, q1, f0, f1]) ?_
    rintro _ _ ⟨rfl, rfl⟩
    subst hF
    simp [fr, Act.put, h1, h4]
    have xp := HP.out.1.below hb HP.out.1.lt
    have W3X : Box ((W.setCell ⟨gg, 0, none⟩ (.slice (some ⟨g, 0, none⟩) 3 3)).setCell ⟨gg, 1, none⟩ (.int .i64 2)) gg [.slice (some ⟨g, 0, none⟩) 3 3, .int .i64 2] := (x0.self 0 _).self 1 _
    have b3 : Below W0.heap.size W0 ((W.setCell ⟨gg, 0, none⟩ (.slice (some ⟨g, 0, none⟩) 3 3)).setCell ⟨gg, 1, none⟩ (.int .i64 2)) := (hb.setCell (p := ⟨gg, 0, none⟩) h5 _).setCell (p := ⟨gg, 1, none⟩) h5 _
    have ss : ∀ {q : Nat} {cs : List Value}, Box W q cs → q ≠ gg → Box ((W.setCell ⟨gg, 0, none⟩ (.slice (some ⟨g, 0, none⟩) 3 3)).setCell ⟨gg, 1, none⟩ (.int .i64 2)) q cs := fun h hne => (h.set (p := ⟨gg, 0, none⟩) hne _).set (p := ⟨gg, 1, none⟩) hne _
    have HX : Hid (Box ((W.setCell ⟨gg, 0, none⟩ (.slice (some ⟨g, 0, none⟩) 3 3)).setCell ⟨gg, 1, none⟩ (.int .i64 2)) gg [.slice (some ⟨g, 0, none⟩) 3 3, .int .i64 2] ∧ Box ((W.setCell ⟨gg, 0, none⟩ (.slice (some ⟨g, 0, none⟩) 3 3)).setCell ⟨gg, 1, none⟩ (.int .i64 2)) g (clA w.heap.size b c d e) ∧ Box ((W.setCell ⟨gg, 0, none⟩ (.slice (some ⟨g, 0, none⟩) 3 3)).setCell ⟨gg, 1, none⟩ (.int .i64 2)) w.heap.size ([0, 0, 0, 255, 0, 0, 1, 1].map (Value.int .i64)) ∧ Box ((W.setCell ⟨gg, 0, none⟩ (.slice (some ⟨g, 0, none⟩) 3 3)).setCell ⟨gg, 1, none⟩ (.int .i64 2)) b ([0].map (Value.int .i64)) ∧ Box ((W.setCell ⟨gg, 0, none⟩ (.slice (some ⟨g, 0, none⟩) 3 3)).setCell ⟨gg, 1, none⟩ (.int .i64 2)) c ((List.replicate 20 0).map (Value.int .i64)) ∧
        Box ((W.setCell ⟨gg, 0, none⟩ (.slice (some ⟨g, 0, none⟩) 3 3)).setCell ⟨gg, 1, none⟩ (.int .i64 2)) d ([1, -1].map (Value.int .i64)) ∧ Box ((W.setCell ⟨gg, 0, none⟩ (.slice (some ⟨g, 0, none⟩) 3 3)).setCell ⟨gg, 1, none⟩ (.int .i64 2)) e ([0].map (Value.int .i64)) ∧ Below w.heap.size w ((W.setCell ⟨gg, 0, none⟩ (.slice (some ⟨g, 0, none⟩) 3 3)).setCell ⟨gg, 1, none⟩ (.int .i64 2))) :=
      ⟨W3X, ss xg (box_ne x0 xg rfl rfl (by simp)), ss xp (box_ne x0 xp rfl rfl (by simp)), ss xb (box_ne x0 xb rfl rfl (by simp)), ss xc (box_ne x0 xc rfl rfl (by simp)), ss xd (box_ne x0 xd rfl rfl (by simp)), ss xe (box_ne x0 xe rfl rfl (by simp)), HP.out.2.trans (b3.mono HP.out.2.size)⟩
    have HN : Hid (w.heap.size ≤ g ∧ w.heap.size ≤ gg) := by have := HP.out.2.size; exact ⟨by omega, by omega⟩
    generalize vs 0 = v0 at *
    generalize vs 1 = v1 at *
    generalize vs 2 = v2 at *
    generalize vs 3 = v3 at *
    generalize vs 4 = v4 at *
    generalize vs 5 = v5 at *
    generalize vs 6 = v6 at *
    generalize vs 7 = v7 at *
    clear hT hf h1 h4 e1 e2
    refine hK _ _ ?_
    clear hK x0 q0 q1 f0 f1 xg xb xc xd xe xp n1 n2 n3 n4 n5 h5 hb b3 ss c0 c1 c2 HP W3X
    generalize ((W.setCell ⟨gg, 0, none⟩ (.slice (some ⟨g, 0, none⟩) 3 3)).setCell ⟨gg, 1, none⟩ (.int .i64 2)) = W3 at *
    clear W
    have g0 := HX.out.1.cell 0 rfl
    have g1 := HX.out.1.cell 1 rfl
    go_wp2_with fail
    have hgr3 : Gr W3.heap.size W3 (.slice (some ⟨g, 0, none⟩) 3 3) (ndA [1, -1]) := grA HX.out.2.1 HX.out.2.2.1 HX.out.2.2.2.1 HX.out.2.2.2.2.1 HX.out.2.2.2.2.2.1 HX.out.2.2.2.2.2.2.1 (by decide) (by decide) (Nat.le_refl _)
    have HGR : Hid (Gr W3.heap.size W3 (.slice (some ⟨g, 0, none⟩) 3 3) (ndA [1, -1])) := hgr3
    have hl3 := HX.out.2.1.lt
    clear hgr3
    have HC4 := groups_c W3.heap.size _ (ndA [1, -1]) 2 true W3 (by decide) (shortA 1 (-1)) HGR.out (Nat.le_refl _) (by decide)
    rw [gA1] at HC4
    refine HC4.mono ?_; rintro e w4 ⟨a4, c4, vs4, rfl, hu4, hb4⟩
    clear HC4
    obtain ⟨o4, x4, y4, rfl, cl4, ow4⟩ := hu4.at rfl (r := 0) (by decide)
    have ho4 : W3.heap.size ≤ o4 := (World.ownsRow.lt hu4.own o4 rfl).1
    have cl4' : w4.cell? ⟨o4, 0, none⟩ = some (.slice x4 3 y4) := cl4
    clear g0 g1 hu4 ow4 cl4 vs4
    have g0 := (HX.out.1.call hb4).cell 0 rfl
    have g1 := (HX.out.1.call hb4).cell 1 rfl
    go_wp2_with fail
    have HC5 := groups_c W3.heap.size _ (ndA [1, -1]) 2 false w4 (by decide) (shortA 1 (-1)) (HGR.out.below hb4 (Nat.le_refl _)) hb4.size (by decide)
    rw [gA2] at HC5
    refine HC5.mono ?_; rintro e w5 ⟨a5, c5, vs5, rfl, hu5, hb5⟩
    have hb35 : Below W3.heap.size W3 w5 := hb4.trans (hb5.mono hb4.size)
    have cl5 := (hb5.cell (p := ⟨o4, 0, none⟩) (lt_of_cell cl4')).trans cl4'
    have ho5 := lt_of_cell cl5
    clear HC5 g0 g1 hu5 vs5 cl4'
    have X5 : Hid (Box w5 gg [.slice (some ⟨g, 0, none⟩) 3 3, .int .i64 2] ∧ Box w5 g (clA w.heap.size b c d e) ∧ Box w5 w.heap.size ([0, 0, 0, 255, 0, 0, 1, 1].map (Value.int .i64)) ∧ Box w5 b ([0].map (Value.int .i64)) ∧ Box w5 c ((List.replicate 20 0).map (Value.int .i64)) ∧ Box w5 e ([0].map (Value.int .i64)) ∧ Below w.heap.size w w5) :=
      ⟨HX.out.1.call hb35, HX.out.2.1.call hb35, HX.out.2.2.1.call hb35, HX.out.2.2.2.1.call hb35, HX.out.2.2.2.2.1.call hb35, HX.out.2.2.2.2.2.2.1.call hb35, HX.out.2.2.2.2.2.2.2.trans (hb35.mono HX.out.2.2.2.2.2.2.2.size)⟩
    have g0 := X5.out.1.cell 0 rfl
    have g1 := X5.out.1.cell 1 rfl
    have k7 := X5.out.2.1.cell 7 rfl
    have f7 := X5.out.2.1.frozen 7
    have hl5 := X5.out.2.1.lt
    clear hb35 hb4 hb5 HGR
    have xn : Box ((w5.setCell ⟨g, 7, none⟩ (.slice (some ⟨w5.heap.size, 0, none⟩) 2 2)).alloc (.cells #[.int .i64 1, .int .i64 0] 3)) w5.heap.size ([1, 0].map (Value.int .i64)) := by
      have := Box.new (w5.setCell ⟨g, 7, none⟩ (.slice (some ⟨w5.heap.size, 0, none⟩) 2 2)) [.int .i64 1, .int .i64 0] 3
      have e : (w5.setCell ⟨g, 7, none⟩ (.slice (some ⟨w5.heap.size, 0, none⟩) 2 2)).heap.size = w5.heap.size := by simp
      rw [e] at this
      exact this
    have ss : ∀ {q : Nat} {cs : List Value}, Box w5 q cs → q ≠ g → Box ((w5.setCell ⟨g, 7, none⟩ (.slice (some ⟨w5.heap.size, 0, none⟩) 2 2)).alloc (.cells #[.int .i64 1, .int .i64 0] 3)) q cs := fun h hne => (h.set (p := ⟨g, 7, none⟩) hne _).alloc _
    have xg : Box ((w5.setCell ⟨g, 7, none⟩ (.slice (some ⟨w5.heap.size, 0, none⟩) 2 2)).alloc (.cells #[.int .i64 1, .int .i64 0] 3)) g (clA w.heap.size b c w5.heap.size e) := (X5.out.2.1.self 7 _).alloc _
    have hb6 : Below w.heap.size w ((w5.setCell ⟨g, 7, none⟩ (.slice (some ⟨w5.heap.size, 0, none⟩) 2 2)).alloc (.cells #[.int .i64 1, .int .i64 0] 3)) := (X5.out.2.2.2.2.2.2.setCell (p := ⟨g, 7, none⟩) HN.out.1 _).alloc (X5.out.2.2.2.2.2.2.setCell (p := ⟨g, 7, none⟩) HN.out.1 _).size _
    have xx := X5.out.2.1
    have H6 : Hid (Box ((w5.setCell ⟨g, 7, none⟩ (.slice (some ⟨w5.heap.size, 0, none⟩) 2 2)).alloc (.cells #[.int .i64 1, .int .i64 0] 3)) gg [.slice (some ⟨g, 0, none⟩) 3 3, .int .i64 2] ∧ Gr ((w5.setCell ⟨g, 7, none⟩ (.slice (some ⟨w5.heap.size, 0, none⟩) 2 2)).alloc (.cells #[.int .i64 1, .int .i64 0] 3)).heap.size ((w5.setCell ⟨g, 7, none⟩ (.slice (some ⟨w5.heap.size, 0, none⟩) 2 2)).alloc (.cells #[.int .i64 1, .int .i64 0] 3)) (.slice (some ⟨g, 0, none⟩) 3 3) (ndA [1, 0]) ∧ Below w.heap.size w ((w5.setCell ⟨g, 7, none⟩ (.slice (some ⟨w5.heap.size, 0, none⟩) 2 2)).alloc (.cells #[.int .i64 1, .int .i64 0] 3))) :=
      ⟨ss X5.out.1 (box_ne xx X5.out.1 rfl rfl (by simp)), grA xg (ss X5.out.2.2.1 (box_ne xx X5.out.2.2.1 rfl rfl (by simp))) (ss X5.out.2.2.2.1 (box_ne xx X5.out.2.2.2.1 rfl rfl (by simp))) (ss X5.out.2.2.2.2.1 (box_ne xx X5.out.2.2.2.2.1 rfl rfl (by simp))) xn (ss X5.out.2.2.2.2.2.1 (box_ne xx X5.out.2.2.2.2.2.1 rfl rfl (by simp))) (by decide) (by decide) (Nat.le_refl _), hb6⟩
    have cl6 : ((w5.setCell ⟨g, 7, none⟩ (.slice (some ⟨w5.heap.size, 0, none⟩) 2 2)).alloc (.cells #[.int .i64 1, .int .i64 0] 3)).cell? ⟨o4, 0, none⟩ = some (.slice x4 3 y4) :=
      cell_alloc_lt (heap_at (Below.heap_setCell _ _ _ _ (by simp; omega)) cl5) _
    have u0 := H6.out.1.cell 0 rfl
    have u1 := H6.out.1.cell 1 rfl
    clear X5 xn ss xg hb6 xx cl5 HX HN hl3
    go_wp2_with fail
    clear g0 g1 k7 f7 hl5 u0 u1
    generalize ((w5.setCell ⟨g, 7, none⟩ (.slice (some ⟨w5.heap.size, 0, none⟩) 2 2)).alloc (.cells #[.int .i64 1, .int .i64 0] 3)) = W6 at *
    have HC7 := groups_c W6.heap.size _ (ndA [1, 0]) 2 true W6 (by decide) (shortA 1 0) H6.out.2.1 (Nat.le_refl _) (by decide)
    rw [gA3] at HC7
    refine HC7.mono ?_; rintro e w7 ⟨a7, c7, vs7, rfl, hu7, hb7⟩
    obtain ⟨o7, x7, y7, rfl, cl7, ow7⟩ := hu7.at rfl (r := 0) (by decide)
    have cl7' : w7.cell? ⟨o7, 0, none⟩ = some (.slice x7 1 y7) := cl7
    have cl8 := (hb7.cell (p := ⟨o4, 0, none⟩) (lt_of_cell cl6)).trans cl6
    have HE : Hid (Below w.heap.size w w7) := H6.out.2.2.trans (hb7.mono H6.out.2.2.size)
    clear HC7 hu7 vs7 ow7 cl7 cl6 H6 hb7
    go_wp2_with fail
    go_ret
    exact ⟨rfl, HE.out⟩
end Go.Proofs.YtijkcpkljmpplaaDoor
