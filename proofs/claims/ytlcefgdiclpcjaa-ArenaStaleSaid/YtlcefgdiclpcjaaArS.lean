/- The walk of 'ArenaActs'. -/
import Derived.Test.YtlcefgdiclpcjaaArR
import Derived.Test.YtlcefgdiclpcjaaArI
import Derived.Test.YtlcefgdiclpcjaaArM
namespace Go.Proofs.Ytlcefgdiclpcjaa
open Go.RowKit Go.Bx Go.ChangeShapes Go.WideShapes Go.ChangeAt
attribute [local go_sem ↓] Go.wp_at_zero Go.wp_at_succ
set_option linter.unusedVariables false

def AI (w : World) (n : Nat) (gv lv x y : Value) (W : World) : Prop := Box W n [gv, lv] ∧ Box W (n + 1) [x, y] ∧ Below w.heap.size w W
theorem AI.below {w W W' : World} {n : Nat} {gv lv x y : Value} (h : AI w n gv lv x y W) (hb : Below W.heap.size W W') : AI w n gv lv x y W' := ⟨h.1.call hb, h.2.1.call hb, after h.2.2 h.2.2.size hb⟩
/-- an arena in memory -/
def Ar (W : World) (x y : Value) (G : List Int) (L : List Bool) : Prop := SlOf RInt 1 (· < W.heap.size) W x G ∧ SlOf RBool 1 (· < W.heap.size) W y L
theorem Ar.call {W W' : World} {x y : Value} {G : List Int} {L : List Bool} (h : Ar W x y G L) (hb : Below W.heap.size W W') : Ar W' x y G L :=
  ⟨(h.1.same RInt.ok (Same.of_below hb (fun _ h => h))).mono RInt.ok fun _ h => Nat.lt_of_lt_of_le h hb.size, (h.2.same RBool.ok (Same.of_below hb (fun _ h => h))).mono RBool.ok fun _ h => Nat.lt_of_lt_of_le h hb.size⟩
theorem Ar.alloc {W : World} {x y : Value} {G : List Int} {L : List Bool} (h : Ar W x y G L) (o : Obj) : Ar (W.alloc o) x y G L := h.call ((Below.refl _ W).alloc (Nat.le_refl _) o)
theorem Ar.same {W : World} {a b c d : Value} {G : List Int} {L : List Bool} (h : Ar W a b G L) (k : Ar W c d G L) : Calls Try.prog 37 #[.agg #[a, b], .agg #[c, d]] W (PPost W (.bool true)) := by
  have := same22_c a b c d G G L L W h.1 h.2 k.1 k.2
  rwa [show sameA G G L L = true by simp [sameA]] at this
/-- what the operations of the test of Right and New yield -/
def AT (B : Nat) (gv lv : Value) (r : Bool) (i : Nat) (v : Value) (W : World) : Prop := match i with
  | 0 => v = .agg #[gv, lv]
  | 1 => v = .bool r
  | 2 => v = .agg #[gv, lv]
  | 3 => v = .bool r
  | 4 => v = .bool false
  | 5 => v = .bool false
  | 6 => ∃ a p b q, v = .agg #[.slice a 1 p, .slice b 1 q] ∧ OwnI W B (.slice a 1 p) [0] ∧ OwnB W B (.slice b 1 q) [true]
  | 7 => ∃ a p, v = .slice a 1 p ∧ OwnI W B (.slice a 1 p) [0]
  | 8 => ∃ a p, v = .slice a 1 p ∧ OwnB W B (.slice a 1 p) [true]
  | 9 => ∃ a p b q, v = .agg #[.slice a 1 p, .slice b 1 q] ∧ OwnI W B (.slice a 1 p) [0] ∧ OwnB W B (.slice b 1 q) [true]
  | 10 => v = .bool true
  | 11 => v = .bool false
  | 12 => v = .bool false
  | _ => True
theorem AT.below {B : Nat} {gv lv : Value} {r : Bool} {i : Nat} {v : Value} {W W' : World} (h : AT B gv lv r i v W) (hb : Below W.heap.size W W') : AT B gv lv r i v W' := by
  match i, h with
  | 0, h => exact h
  | 1, h => exact h
  | 2, h => exact h
  | 3, h => exact h
  | 4, h => exact h
  | 5, h => exact h
  | 6, ⟨a, p, b, q, h1, h2, h3⟩ => exact ⟨a, p, b, q, h1, h2.below hb, h3.below hb⟩
  | 7, ⟨a, p, h1, h2⟩ => exact ⟨a, p, h1, h2.below hb⟩
  | 8, ⟨a, p, h1, h2⟩ => exact ⟨a, p, h1, h2.below hb⟩
  | 9, ⟨a, p, b, q, h1, h2, h3⟩ => exact ⟨a, p, b, q, h1, h2.below hb, h3.below hb⟩
  | 10, h => exact h
  | 11, h => exact h
  | 12, h => exact h
  | _ + 13, _ => trivial

set_option maxHeartbeats 3200000 in
theorem arenaActs_walk (gv lv : Value) (gs : List Int) (ls : List Bool) (at_ gen : Int) (w : World) (hg : SlOf RInt 1 (· < w.heap.size) w gv gs) (hl : SlOf RBool 1 (· < w.heap.size) w lv ls) :
    Calls Try.prog 11 #[.agg #[gv, lv], .agg #[.int .i64 at_, .int .i64 gen]] w (TPost w) := by
  obtain ⟨ga, gc, rfl, _, hgm, hin0, _⟩ := hg.ints
  obtain ⟨la, lc, rfl, _, hlm, _⟩ := hl.bools
  unfold maxLen at hgm hlm
  have hI3 : Hid (∀ W, Below w.heap.size w W → SlOf RInt 1 (· < w.heap.size) W (.slice ga gs.length gc) gs ∧ SlOf RBool 1 (· < w.heap.size) W (.slice la ls.length lc) ls) := fun W hb => ⟨hg.same RInt.ok (Same.of_below hb (fun _ h => h)), hl.same RBool.ok (Same.of_below hb (fun _ h => h))⟩
  have hin : Hid (∀ x ∈ gs, In64 x) := hin0
  clear hg hl hin0
  have X0 := (Box.new w [.slice ga gs.length gc, .slice la ls.length lc] 46).alloc (.cells #[.int .i64 at_, .int .i64 gen] 48)
  have Y0 := Box.new (w.alloc (.cells #[.slice ga gs.length gc, .slice la ls.length lc] 46)) [.int .i64 at_, .int .i64 gen] 48
  rw [size_alloc] at Y0
  have B0 : Below w.heap.size w ((w.alloc (.cells #[.slice ga gs.length gc, .slice la ls.length lc] 46)).alloc (.cells #[.int .i64 at_, .int .i64 gen] 48)) := ((Below.refl _ w).alloc (Nat.le_refl _) _).alloc (by simp) _
  go_enter Try.func11, Try.ntmps11
  go_wp2_with fail
  generalize (w.alloc (.cells #[.slice ga gs.length gc, .slice la ls.length lc] 46)).alloc (.cells #[.int .i64 at_, .int .i64 gen] 48) = W0 at *
  refine (awake22_c _).mono ?_; rintro e w1 ⟨rfl, hb1⟩
  have X1 := X0.call hb1
  have Y1 := Y0.call hb1
  have B1 := after B0 B0.size hb1
  have c0 := X1.cell 0 rfl
  have c1 := X1.cell 1 rfl
  clear X0 Y0 B0 hb1
  by_cases h1 : 1100 < gs.length
  · have h1' : (1100 : Int) < (gs.length : Int) := by omega
    go_wp2_with fail
    refine (awake22_c _).mono ?_; rintro e w3 ⟨rfl, hb3⟩
    have B3 := after B1 B1.size hb3
    go_wp2_with fail
    go_ret
    exact ⟨rfl, B3⟩
  by_cases h2 : 1100 < ls.length
  · have h1' : ¬ (1100 : Int) < (gs.length : Int) := by omega
    have h2' : (1100 : Int) < (ls.length : Int) := by omega
    go_wp2_with fail
    refine (awake22_c _).mono ?_; rintro e w3 ⟨rfl, hb3⟩
    have B3 := after B1 B1.size hb3
    go_wp2_with fail
    go_ret
    exact ⟨rfl, B3⟩
  have h1' : ¬ (1100 : Int) < (gs.length : Int) := by omega
  have h2' : ¬ (1100 : Int) < (ls.length : Int) := by omega
  have H1 : Hid (gs.length ≤ 1100 ∧ ls.length ≤ 1100) := ⟨by omega, by omega⟩
  clear h1 h2
  go_wp2_with fail
  clear h1' h2' hgm hlm
  rename_i K hK
  refine wp_region_each (AI w w.heap.size (.slice ga gs.length gc) (.slice la ls.length lc) (.int .i64 at_) (.int .i64 gen)) (AT w.heap.size (.slice ga gs.length gc) (.slice la ls.length lc) (rightA gs ls)) (by kernel_rfl) (by kernel_rfl) ⟨X1, Y1, B1.drew⟩ ?hop ?hend
  case hop =>
    refine Each.get (n := 13) ⟨⟨⟨⟨⟨⟨⟨⟨⟨⟨⟨⟨⟨trivial, ?h0⟩, ?h1⟩, ?h2⟩, ?h3⟩, ?h4⟩, ?h5⟩, ?h6⟩, ?h7⟩, ?h8⟩, ?h9⟩, ?h10⟩, ?h11⟩, ?h12⟩
    case h0 =>
      refine OpIs.plain (by kernel_rfl) _ rfl rfl fun vs ev W hf hI hd => ?_
      have e0 : ev (.tmp 2) = .pointer (some ⟨w.heap.size, 0, none⟩) := hf.off 2 rfl
      have d0 := hI.1.cell 0 rfl
      have d1 := hI.1.cell 1 rfl
      clear hK
      exact gives_pure (v := .agg #[.slice ga gs.length gc, .slice la ls.length lc]) hI (by simp [gives, go_sem, e0, d0, d1]) rfl
    case h1 =>
      refine OpIs.plain (by kernel_rfl) _ rfl rfl fun vs ev W hf hI hd => ?_
      have e0 : ev (.tmp 30) = .agg #[.slice ga gs.length gc, .slice la ls.length lc] := (hf.of 0 _ 30 rfl rfl rfl (of_decide_eq_true rfl)).trans (hd 0 (by kernel_rfl))
      have eb := hI.2.2
      refine gives_mono (R := fun v w' => PPost W (.bool (rightA gs ls)) (.returned v) w') ?_ ?_
      · have hc := right_c _ _ gs ls W (fun b hb => Nat.lt_of_lt_of_le hb eb.size) (hI3.out _ eb).1 (hI3.out _ eb).2
        clear hK
        have e4 := hf.func 38
        simp [gives, execOp, resolve, invoke, e0, e4, go_sem]
        exact hc.mono fun e w' h => ⟨_, h.1, rfl, h.2⟩
      · rintro v w' ⟨he, h2⟩
        cases he
        exact ⟨rfl, hI.below h2, fun j u _ h => h.below h2⟩
    case h2 =>
      refine OpIs.plain (by kernel_rfl) _ rfl rfl fun vs ev W hf hI hd => ?_
      have e0 : ev (.tmp 2) = .pointer (some ⟨w.heap.size, 0, none⟩) := hf.off 2 rfl
      have d0 := hI.1.cell 0 rfl
      have d1 := hI.1.cell 1 rfl
      clear hK
      exact gives_pure (v := .agg #[.slice ga gs.length gc, .slice la ls.length lc]) hI (by simp [gives, go_sem, e0, d0, d1]) rfl
    case h3 =>
      refine OpIs.plain (by kernel_rfl) _ rfl rfl fun vs ev W hf hI hd => ?_
      have e0 : ev (.tmp 32) = .agg #[.slice ga gs.length gc, .slice la ls.length lc] := (hf.of 2 _ 32 rfl rfl rfl (of_decide_eq_true rfl)).trans (hd 2 (by kernel_rfl))
      have eb := hI.2.2
      refine gives_mono (R := fun v w' => PPost W (.bool (rightA gs ls)) (.returned v) w') ?_ ?_
      · have hc := rright_c _ _ gs ls W (hI3.out _ eb).1 (hI3.out _ eb).2
        clear hK
        have e4 := hf.func 39
        simp [gives, execOp, resolve, invoke, e0, e4, go_sem]
        exact hc.mono fun e w' h => ⟨_, h.1, rfl, h.2⟩
      · rintro v w' ⟨he, h2⟩
        cases he
        exact ⟨rfl, hI.below h2, fun j u _ h => h.below h2⟩
    case h4 =>
      refine OpIs.plain (by kernel_rfl) _ rfl rfl fun vs ev W hf hI hd => ?_
      have e0 : ev (.tmp 31) = .bool (rightA gs ls) := (hf.of 1 _ 31 rfl rfl rfl (of_decide_eq_true rfl)).trans (hd 1 (by kernel_rfl))
      have e1 : ev (.tmp 33) = .bool (rightA gs ls) := (hf.of 3 _ 33 rfl rfl rfl (of_decide_eq_true rfl)).trans (hd 3 (by kernel_rfl))
      clear hK
      exact gives_pure (v := .bool false) hI (by simp [gives, go_sem, e0, e1]) rfl
    case h5 =>
      refine OpIs.plain (by kernel_rfl) _ rfl rfl fun vs ev W hf hI hd => ?_
      have e0 : ev (.tmp 34) = .bool false := (hf.of 4 _ 34 rfl rfl rfl (of_decide_eq_true rfl)).trans (hd 4 (by kernel_rfl))
      clear hK
      exact gives_pure (v := .bool false) hI (by simp [gives, go_sem, e0]) rfl
    case h6 =>
      refine OpIs.want (by kernel_rfl) _ rfl 5 false _ 35 rfl rfl rfl (of_decide_eq_true rfl) (by kernel_rfl) (fun v w h => h) fun vs ev W hf hI hd => ?_
      refine gives_mono (R := fun v w' => CPost W [0] [true] (.returned v) w') ?_ ?_
      · have hc := anew_c W
        clear hK
        have e4 := hf.func 40
        simp [gives, execOp, resolve, invoke, e4, go_sem]
        exact hc.mono fun e w' h => by
          obtain ⟨a, p, b, q, he, h2⟩ := h
          exact ⟨_, he, a, p, b, q, rfl, h2⟩
      · rintro v w' ⟨a, p, b, q, he, h2, h3, h4⟩
        cases he
        exact ⟨⟨a, p, b, q, rfl, h2.mono hI.2.2.size, h3.mono hI.2.2.size⟩, hI.below h4, fun j u _ h => h.below h4⟩
    case h7 =>
      refine OpIs.want (by kernel_rfl) _ rfl 5 false _ 35 rfl rfl rfl (of_decide_eq_true rfl) (by kernel_rfl) (fun v w h => h) fun vs ev W hf hI hd => ?_
      clear hK
      refine gives_mono (R := fun v w' => v = .slice (some ⟨W.heap.size, 0, none⟩) 1 1 ∧ w' = W.alloc (.cells #[.int .i64 0] 3)) (by simp [gives, go_sem, hf.const]) ?_
      rintro v w' ⟨rfl, rfl⟩
      have hb : Below W.heap.size W (W.alloc (.cells #[.int .i64 0] 3)) := (Below.refl _ W).alloc (Nat.le_refl _) _
      exact ⟨⟨_, _, rfl, OwnI.new W w.heap.size [0] hI.2.2.size (by decide)⟩, hI.below hb, fun j u _ h => h.below hb⟩
    case h8 =>
      refine OpIs.want (by kernel_rfl) _ rfl 5 false _ 35 rfl rfl rfl (of_decide_eq_true rfl) (by kernel_rfl) (fun v w h => h) fun vs ev W hf hI hd => ?_
      clear hK
      refine gives_mono (R := fun v w' => v = .slice (some ⟨W.heap.size, 0, none⟩) 1 1 ∧ w' = W.alloc (.cells #[.bool true] 4)) (by simp [gives, go_sem, hf.const]) ?_
      rintro v w' ⟨rfl, rfl⟩
      have hb : Below W.heap.size W (W.alloc (.cells #[.bool true] 4)) := (Below.refl _ W).alloc (Nat.le_refl _) _
      exact ⟨⟨_, _, rfl, OwnB.new W w.heap.size [true] hI.2.2.size (by decide)⟩, hI.below hb, fun j u _ h => h.below hb⟩
    case h9 =>
      refine OpIs.want (by kernel_rfl) _ rfl 5 false _ 35 rfl rfl rfl (of_decide_eq_true rfl) (by kernel_rfl) (fun v w h => h) fun vs ev W hf hI hd => ?_
      obtain ⟨a, p, h1, h2⟩ := hd 7 (by kernel_rfl)
      obtain ⟨b, q, h3, h4⟩ := hd 8 (by kernel_rfl)
      have e1 := (hf.of 7 _ 37 rfl rfl rfl (of_decide_eq_true rfl)).trans h1
      have e2 := (hf.of 8 _ 38 rfl rfl rfl (of_decide_eq_true rfl)).trans h3
      clear hK
      refine gives_mono (R := fun v w' => v = .agg #[.slice a 1 p, .slice b 1 q] ∧ w' = W) (by simp [gives, go_sem, e1, e2]) ?_
      rintro _ _ ⟨rfl, rfl⟩
      exact ⟨⟨a, p, b, q, rfl, h2, h4⟩, hI, fun _ _ _ h => h⟩
    case h10 =>
      refine OpIs.want (by kernel_rfl) _ rfl 5 false _ 35 rfl rfl rfl (of_decide_eq_true rfl) (by kernel_rfl) (fun v w h => h) fun vs ev W hf hI hd => ?_
      obtain ⟨a, p, b, q, h1, h2, h3⟩ := hd 6 (by kernel_rfl)
      obtain ⟨a', p', b', q', h4, h5, h6⟩ := hd 9 (by kernel_rfl)
      have e1 := (hf.of 6 _ 36 rfl rfl rfl (of_decide_eq_true rfl)).trans h1
      have e2 := (hf.of 9 _ 39 rfl rfl rfl (of_decide_eq_true rfl)).trans h4
      refine gives_mono (R := fun v w' => PPost W (.bool true) (.returned v) w') ?_ ?_
      · have hc : Calls _ _ _ _ (PPost W (.bool true)) := same22_c _ _ _ _ [0] [0] [true] [true] W (h2.sl (by simp [In64])) h3.sl (h5.sl (by simp [In64])) h6.sl
        clear hK
        have e4 := hf.func 37
        simp [gives, execOp, resolve, invoke, e1, e2, e4, go_sem]
        exact hc.mono fun e w' h => ⟨_, h.1, rfl, h.2⟩
      · rintro v w' ⟨he, h2⟩
        cases he
        exact ⟨rfl, hI.below h2, fun j u _ h => h.below h2⟩
    case h11 =>
      refine OpIs.want (by kernel_rfl) _ rfl 5 false _ 35 rfl rfl rfl (of_decide_eq_true rfl) (by kernel_rfl) (fun v w h => h) fun vs ev W hf hI hd => ?_
      have e0 : ev (.tmp 40) = .bool true := (hf.of 10 _ 40 rfl rfl rfl (of_decide_eq_true rfl)).trans (hd 10 (by kernel_rfl))
      clear hK
      exact gives_pure (v := .bool false) hI (by simp [gives, go_sem, e0]) rfl
    case h12 =>
      refine OpIs.plain (by kernel_rfl) _ rfl rfl fun vs ev W hf hI hd => ?_
      have e0 : ev (.tmp 35) = .bool false := (hf.of 5 _ 35 rfl rfl rfl (of_decide_eq_true rfl)).trans (hd 5 (by kernel_rfl))
      have e1 : ev (.tmp 41) = .bool false := (hf.of 11 _ 41 rfl rfl rfl (of_decide_eq_true rfl)).trans (hd 11 (by kernel_rfl))
      clear hK
      exact gives_pure (v := .bool false) hI (by simp [gives, go_sem, e0, e1, hf.const]) rfl
  case hend =>
    intro vs W hI hT
    refine ⟨?_⟩
    have h42 : vs 12 = .bool false := hT 12 (by decide)
    simp [fr, Act.put, h42]
    clear hT h42
    obtain ⟨X2, Y2, B2⟩ := hI
    clear c0 c1 X1 Y1 B1
    have c0 := X2.cell 0 rfl
    have c1 := X2.cell 1 rfl
    refine hK _ _ ?_
    clear hK
    go_wp2_with fail
    refine (right22_c _ _ gs ls _ (fun b hb => Nat.lt_of_lt_of_le hb B2.size) (hI3.out _ B2).1 (hI3.out _ B2).2).mono ?_; rintro e w3 ⟨rfl, hb3⟩
    clear c0 c1
    have X3 := X2.call hb3
    have Y3 := Y2.call hb3
    have B3 := after B2 B2.size hb3
    have c0 := X3.cell 0 rfl
    have c1 := X3.cell 1 rfl
    clear X2 Y2 B2 hb3
    obtain ⟨ok, hok⟩ : ∃ ok, ok = okA gs ls := ⟨_, rfl⟩
    rw [← hok]
    cases ok
    · clear hok
      go_wp2_with fail
      go_ret
      exact ⟨rfl, B3⟩
    obtain ⟨hlen, hpos, h1024, hnn, hcalm, hz0, hz1⟩ := okA_parts hok.symm
    have HN : Hid (gs.length = ls.length) := hlen
    have HC : Hid (∀ x ∈ gs, x < 9223372036854775807) := fun x hx => by have := hcalm x hx; omega
    have H1024 : Hid (ls.length ≤ 1024) := h1024
    have HG : Hid (∀ x ∈ tkG gs ls, In64 x) := tkG_in hin.out
    have HF : Hid (∀ x ∈ frG gs ls at_ gen, In64 x) := by
      intro x hx
      unfold frG at hx
      split at hx
      · rename_i ho
        rcases List.mem_or_eq_of_mem_set hx with hx | hx
        · exact hin.out x hx
        · unfold frOk at ho
          simp only [Bool.and_eq_true] at ho
          obtain ⟨k, hk, hkl, _, hgk⟩ := (hasB_iff gs ls at_ gen).1 ho.1
          subst hk
          have hm : gs.getD k 0 ∈ gs := by rw [List.getD_eq_getElem?_getD, List.getElem?_eq_getElem hkl]; exact List.getElem_mem hkl
          rw [Int.toNat_natCast] at hx
          have h1 := hnn _ hm; have h2 := hcalm _ hm
          subst hx; unfold In64; omega
      · exact hin.out x hx
    clear hok hlen hpos h1024 hnn hcalm hz0 hz1 H1
    go_wp2_with fail
    refine (take_c _ _ gs ls _ HN.out H1024.out (fun b hb => Nat.lt_of_lt_of_le hb B3.size) (hI3.out _ B3).1 (hI3.out _ B3).2).mono ?_; rintro e w4 ⟨a4, p4, b4, q4, rfl, g4, l4, hb4⟩
    have A4 : Ar w4 (.slice a4 (tkG gs ls).length p4) (.slice b4 (tkL ls).length q4) (tkG gs ls) (tkL ls) := ⟨own_slI g4 HG.out, own_slB l4⟩
    clear c0 c1 g4 l4
    have X4 := ((X3.call hb4).alloc (.cells #[.slice a4 (tkG gs ls).length p4, .slice b4 (tkL ls).length q4] 46)).alloc (.cells #[.int .i64 (tkAt ls), .int .i64 (tkGen gs ls)] 48)
    have Y4 := ((Y3.call hb4).alloc (.cells #[.slice a4 (tkG gs ls).length p4, .slice b4 (tkL ls).length q4] 46)).alloc (.cells #[.int .i64 (tkAt ls), .int .i64 (tkGen gs ls)] 48)
    have U4 := (Box.new w4 [.slice a4 (tkG gs ls).length p4, .slice b4 (tkL ls).length q4] 46).alloc (.cells #[.int .i64 (tkAt ls), .int .i64 (tkGen gs ls)] 48)
    have V4 := Box.new (w4.alloc (.cells #[.slice a4 (tkG gs ls).length p4, .slice b4 (tkL ls).length q4] 46)) [.int .i64 (tkAt ls), .int .i64 (tkGen gs ls)] 48
    rw [size_alloc] at V4
    have A5 := (A4.alloc (.cells #[.slice a4 (tkG gs ls).length p4, .slice b4 (tkL ls).length q4] 46)).alloc (.cells #[.int .i64 (tkAt ls), .int .i64 (tkGen gs ls)] 48)
    have B4 := ((after B3 B3.size hb4).alloc (after B3 B3.size hb4).size (.cells #[.slice a4 (tkG gs ls).length p4, .slice b4 (tkL ls).length q4] 46)).alloc ((after B3 B3.size hb4).alloc (after B3 B3.size hb4).size (.cells #[.slice a4 (tkG gs ls).length p4, .slice b4 (tkL ls).length q4] 46)).size (.cells #[.int .i64 (tkAt ls), .int .i64 (tkGen gs ls)] 48)
    clear X3 Y3 B3 hb4 A4
    have c0 := X4.cell 0 rfl
    have c1 := X4.cell 1 rfl
    go_wp2_with fail
    generalize (w4.alloc (.cells #[.slice a4 (tkG gs ls).length p4, .slice b4 (tkL ls).length q4] 46)).alloc (.cells #[.int .i64 (tkAt ls), .int .i64 (tkGen gs ls)] 48) = W4 at *
    generalize w4.heap.size = n4 at *
    clear w4 c0 c1
    refine (rtake_c _ _ gs ls _ HN.out H1024.out (fun b hb => Nat.lt_of_lt_of_le hb B4.size) (hI3.out _ B4).1 (hI3.out _ B4).2).mono ?_; rintro e w5 ⟨v1, v2, rfl, g5, l5, hb5⟩
    have C4 : Ar w5 v1 v2 (tkG gs ls) (tkL ls) := ⟨g5, l5⟩
    obtain ⟨a5, p5, rfl, -⟩ := g5.ints
    obtain ⟨b5, q5, rfl, -⟩ := l5.bools
    clear g5 l5
    have X5 := ((X4.call hb5).alloc (.cells #[.slice a5 (tkG gs ls).length p5, .slice b5 (tkL ls).length q5] 46)).alloc (.cells #[.int .i64 (tkAt ls), .int .i64 (tkGen gs ls)] 48)
    have Y5 := ((Y4.call hb5).alloc (.cells #[.slice a5 (tkG gs ls).length p5, .slice b5 (tkL ls).length q5] 46)).alloc (.cells #[.int .i64 (tkAt ls), .int .i64 (tkGen gs ls)] 48)
    have U5 := ((U4.call hb5).alloc (.cells #[.slice a5 (tkG gs ls).length p5, .slice b5 (tkL ls).length q5] 46)).alloc (.cells #[.int .i64 (tkAt ls), .int .i64 (tkGen gs ls)] 48)
    have V5 := ((V4.call hb5).alloc (.cells #[.slice a5 (tkG gs ls).length p5, .slice b5 (tkL ls).length q5] 46)).alloc (.cells #[.int .i64 (tkAt ls), .int .i64 (tkGen gs ls)] 48)
    have S5 := (Box.new w5 [.slice a5 (tkG gs ls).length p5, .slice b5 (tkL ls).length q5] 46).alloc (.cells #[.int .i64 (tkAt ls), .int .i64 (tkGen gs ls)] 48)
    have T5 := Box.new (w5.alloc (.cells #[.slice a5 (tkG gs ls).length p5, .slice b5 (tkL ls).length q5] 46)) [.int .i64 (tkAt ls), .int .i64 (tkGen gs ls)] 48
    rw [size_alloc] at T5
    have A6 := ((A5.call hb5).alloc (.cells #[.slice a5 (tkG gs ls).length p5, .slice b5 (tkL ls).length q5] 46)).alloc (.cells #[.int .i64 (tkAt ls), .int .i64 (tkGen gs ls)] 48)
    have C6 := (C4.alloc (.cells #[.slice a5 (tkG gs ls).length p5, .slice b5 (tkL ls).length q5] 46)).alloc (.cells #[.int .i64 (tkAt ls), .int .i64 (tkGen gs ls)] 48)
    have B5 := ((after B4 B4.size hb5).alloc (after B4 B4.size hb5).size (.cells #[.slice a5 (tkG gs ls).length p5, .slice b5 (tkL ls).length q5] 46)).alloc ((after B4 B4.size hb5).alloc (after B4 B4.size hb5).size (.cells #[.slice a5 (tkG gs ls).length p5, .slice b5 (tkL ls).length q5] 46)).size (.cells #[.int .i64 (tkAt ls), .int .i64 (tkGen gs ls)] 48)
    clear X4 Y4 U4 V4 B4 hb5 A5 C4
    have c0 := X5.cell 0 rfl
    have c1 := X5.cell 1 rfl
    have c2 := Y5.cell 0 rfl
    have c3 := Y5.cell 1 rfl
    go_wp2_with fail
    generalize (w5.alloc (.cells #[.slice a5 (tkG gs ls).length p5, .slice b5 (tkL ls).length q5] 46)).alloc (.cells #[.int .i64 (tkAt ls), .int .i64 (tkGen gs ls)] 48) = W5 at *
    generalize w5.heap.size = n5 at *
    clear w5 c0 c1 c2 c3
    refine (free_c _ _ gs ls at_ gen _ HN.out (Nat.le_trans H1024.out (by decide)) HC.out (fun b hb => Nat.lt_of_lt_of_le hb B5.size) (hI3.out _ B5).1 (hI3.out _ B5).2).mono ?_; rintro e w6 ⟨a6, p6, b6, q6, rfl, g6, l6, hb6⟩
    have D6 : Ar w6 (.slice a6 (frG gs ls at_ gen).length p6) (.slice b6 (frL gs ls at_ gen).length q6) (frG gs ls at_ gen) (frL gs ls at_ gen) := ⟨own_slI g6 HF.out, own_slB l6⟩
    clear g6 l6
    have X6 := (X5.call hb6).alloc (.cells #[.slice a6 (frG gs ls at_ gen).length p6, .slice b6 (frL gs ls at_ gen).length q6] 46)
    have Y6 := (Y5.call hb6).alloc (.cells #[.slice a6 (frG gs ls at_ gen).length p6, .slice b6 (frL gs ls at_ gen).length q6] 46)
    have U6 := (U5.call hb6).alloc (.cells #[.slice a6 (frG gs ls at_ gen).length p6, .slice b6 (frL gs ls at_ gen).length q6] 46)
    have V6 := (V5.call hb6).alloc (.cells #[.slice a6 (frG gs ls at_ gen).length p6, .slice b6 (frL gs ls at_ gen).length q6] 46)
    have S6 := (S5.call hb6).alloc (.cells #[.slice a6 (frG gs ls at_ gen).length p6, .slice b6 (frL gs ls at_ gen).length q6] 46)
    have T6 := (T5.call hb6).alloc (.cells #[.slice a6 (frG gs ls at_ gen).length p6, .slice b6 (frL gs ls at_ gen).length q6] 46)
    have Q6 := Box.new w6 [.slice a6 (frG gs ls at_ gen).length p6, .slice b6 (frL gs ls at_ gen).length q6] 46
    have A7 := (A6.call hb6).alloc (.cells #[.slice a6 (frG gs ls at_ gen).length p6, .slice b6 (frL gs ls at_ gen).length q6] 46)
    have C7 := (C6.call hb6).alloc (.cells #[.slice a6 (frG gs ls at_ gen).length p6, .slice b6 (frL gs ls at_ gen).length q6] 46)
    have D7 := D6.alloc (.cells #[.slice a6 (frG gs ls at_ gen).length p6, .slice b6 (frL gs ls at_ gen).length q6] 46)
    have B6 := (after B5 B5.size hb6).alloc (after B5 B5.size hb6).size (.cells #[.slice a6 (frG gs ls at_ gen).length p6, .slice b6 (frL gs ls at_ gen).length q6] 46)
    clear X5 Y5 U5 V5 S5 T5 B5 hb6 A6 C6 D6
    have c0 := X6.cell 0 rfl
    have c1 := X6.cell 1 rfl
    have c2 := Y6.cell 0 rfl
    have c3 := Y6.cell 1 rfl
    go_wp2_with fail
    generalize w6.alloc (.cells #[.slice a6 (frG gs ls at_ gen).length p6, .slice b6 (frL gs ls at_ gen).length q6] 46) = W6 at *
    generalize w6.heap.size = n6 at *
    clear w6 c0 c1 c2 c3
    refine (rfree_c _ _ gs ls at_ gen _ HN.out H1024.out HC.out (fun b hb => Nat.lt_of_lt_of_le hb B6.size) (hI3.out _ B6).1 (hI3.out _ B6).2).mono ?_; rintro e w7 ⟨v1, v2, rfl, g7, l7, hb7⟩
    have E7 : Ar w7 v1 v2 (frG gs ls at_ gen) (frL gs ls at_ gen) := ⟨g7, l7⟩
    obtain ⟨a7, p7, rfl, -⟩ := g7.ints
    obtain ⟨b7, q7, rfl, -⟩ := l7.bools
    clear g7 l7
    have X7 := (X6.call hb7).alloc (.cells #[.slice a7 (frG gs ls at_ gen).length p7, .slice b7 (frL gs ls at_ gen).length q7] 46)
    have Y7 := (Y6.call hb7).alloc (.cells #[.slice a7 (frG gs ls at_ gen).length p7, .slice b7 (frL gs ls at_ gen).length q7] 46)
    have U7 := (U6.call hb7).alloc (.cells #[.slice a7 (frG gs ls at_ gen).length p7, .slice b7 (frL gs ls at_ gen).length q7] 46)
    have V7 := (V6.call hb7).alloc (.cells #[.slice a7 (frG gs ls at_ gen).length p7, .slice b7 (frL gs ls at_ gen).length q7] 46)
    have S7 := (S6.call hb7).alloc (.cells #[.slice a7 (frG gs ls at_ gen).length p7, .slice b7 (frL gs ls at_ gen).length q7] 46)
    have T7 := (T6.call hb7).alloc (.cells #[.slice a7 (frG gs ls at_ gen).length p7, .slice b7 (frL gs ls at_ gen).length q7] 46)
    have Q7 := (Q6.call hb7).alloc (.cells #[.slice a7 (frG gs ls at_ gen).length p7, .slice b7 (frL gs ls at_ gen).length q7] 46)
    have R7 := Box.new w7 [.slice a7 (frG gs ls at_ gen).length p7, .slice b7 (frL gs ls at_ gen).length q7] 46
    have A8 := (A7.call hb7).alloc (.cells #[.slice a7 (frG gs ls at_ gen).length p7, .slice b7 (frL gs ls at_ gen).length q7] 46)
    have C8 := (C7.call hb7).alloc (.cells #[.slice a7 (frG gs ls at_ gen).length p7, .slice b7 (frL gs ls at_ gen).length q7] 46)
    have D8 := (D7.call hb7).alloc (.cells #[.slice a7 (frG gs ls at_ gen).length p7, .slice b7 (frL gs ls at_ gen).length q7] 46)
    have E8 := E7.alloc (.cells #[.slice a7 (frG gs ls at_ gen).length p7, .slice b7 (frL gs ls at_ gen).length q7] 46)
    have B7 := (after B6 B6.size hb7).alloc (after B6 B6.size hb7).size (.cells #[.slice a7 (frG gs ls at_ gen).length p7, .slice b7 (frL gs ls at_ gen).length q7] 46)
    clear X6 Y6 U6 V6 S6 T6 Q6 B6 hb7 A7 C7 D7 E7
    go_wp2_with fail
    generalize w7.alloc (.cells #[.slice a7 (frG gs ls at_ gen).length p7, .slice b7 (frL gs ls at_ gen).length q7] 46) = W7 at *
    generalize w7.heap.size = n7 at *
    clear w7
    have HA : Hid ((∀ s : Kept W7.heap.size W7, Calls Try.prog 35 #[.agg #[.slice ga gs.length gc, .slice la ls.length lc], .agg #[.int .i64 at_, .int .i64 gen]] s.w (PPost s.w (.bool (hasB gs ls at_ gen)))) ∧
        (∀ s : Kept W7.heap.size W7, Calls Try.prog 43 #[.agg #[.slice ga gs.length gc, .slice la ls.length lc], .agg #[.int .i64 at_, .int .i64 gen]] s.w (PPost s.w (.bool (hasB gs ls at_ gen)))) ∧
        (∀ s : Kept W7.heap.size W7, Calls Try.prog 33 #[.agg #[.slice ga gs.length gc, .slice la ls.length lc]] s.w (PPost s.w (.int .i64 (cntB ls)))) ∧
        (∀ s : Kept W7.heap.size W7, Calls Try.prog 44 #[.agg #[.slice ga gs.length gc, .slice la ls.length lc]] s.w (PPost s.w (.int .i64 (cntB ls)))) ∧
        (∀ s : Kept W7.heap.size W7, Calls Try.prog 37 #[.agg #[.slice a4 (tkG gs ls).length p4, .slice b4 (tkL ls).length q4], .agg #[.slice a5 (tkG gs ls).length p5, .slice b5 (tkL ls).length q5]] s.w (PPost s.w (.bool true))) ∧
        (∀ s : Kept W7.heap.size W7, Calls Try.prog 37 #[.agg #[.slice a6 (frG gs ls at_ gen).length p6, .slice b6 (frL gs ls at_ gen).length q6], .agg #[.slice a7 (frG gs ls at_ gen).length p7, .slice b7 (frL gs ls at_ gen).length q7]] s.w (PPost s.w (.bool true)))) :=
      ⟨fun s => has_c _ _ gs ls at_ gen _ (hI3.out _ (after B7 B7.size s.below)).1 (hI3.out _ (after B7 B7.size s.below)).2 HN.out, fun s => rhas_c _ _ gs ls at_ gen _ (hI3.out _ (after B7 B7.size s.below)).1 (hI3.out _ (after B7 B7.size s.below)).2 HN.out,
        fun s => count_c _ _ ls _ (hI3.out _ (after B7 B7.size s.below)).2, fun s => rcount_c _ _ ls _ (hI3.out _ (after B7 B7.size s.below)).2, fun s => (A8.call s.below).same (C8.call s.below), fun s => (D8.call s.below).same (E8.call s.below)⟩
    have hq : ∀ W, (binOp .eql 48 (.agg #[.int .i64 (tkAt ls), .int .i64 (tkGen gs ls)]) (.agg #[.int .i64 (tkAt ls), .int .i64 (tkGen gs ls)])).run Try.prog W = .ok (.bool true) W := fun W => by rw [eqlId]; simp
    have k0 := fun s : Kept W7.heap.size W7 => s.at (X7.cell 0 rfl)
    have k1 := fun s : Kept W7.heap.size W7 => s.at (X7.cell 1 rfl)
    have k2 := fun s : Kept W7.heap.size W7 => s.at (Y7.cell 0 rfl)
    have k3 := fun s : Kept W7.heap.size W7 => s.at (Y7.cell 1 rfl)
    have k4 := fun s : Kept W7.heap.size W7 => s.at (U7.cell 0 rfl)
    have k5 := fun s : Kept W7.heap.size W7 => s.at (U7.cell 1 rfl)
    have k6 := fun s : Kept W7.heap.size W7 => s.at (V7.cell 0 rfl)
    have k7 := fun s : Kept W7.heap.size W7 => s.at (V7.cell 1 rfl)
    have k8 := fun s : Kept W7.heap.size W7 => s.at (S7.cell 0 rfl)
    have k9 := fun s : Kept W7.heap.size W7 => s.at (S7.cell 1 rfl)
    have k10 := fun s : Kept W7.heap.size W7 => s.at (T7.cell 0 rfl)
    have k11 := fun s : Kept W7.heap.size W7 => s.at (T7.cell 1 rfl)
    have k12 := fun s : Kept W7.heap.size W7 => s.at (Q7.cell 0 rfl)
    have k13 := fun s : Kept W7.heap.size W7 => s.at (Q7.cell 1 rfl)
    have k14 := fun s : Kept W7.heap.size W7 => s.at (R7.cell 0 rfl)
    have k15 := fun s : Kept W7.heap.size W7 => s.at (R7.cell 1 rfl)
    clear X7 Y7 U7 V7 S7 T7 Q7 R7 A8 C8 D8 E8 HG HF HC HN H1024 hI3 hin
    generalize hasB gs ls at_ gen = hb at *
    generalize cntB ls = cn at *
    generalize tkG gs ls = G at *
    generalize tkL ls = L at *
    generalize tkAt ls = A at *
    generalize tkGen gs ls = N at *
    generalize tkOk ls = O at *
    generalize frG gs ls at_ gen = G8 at *
    generalize frL gs ls at_ gen = L8 at *
    generalize frOk gs ls at_ gen = O8 at *
    refine wp_region_kept W7.heap.size (by kernel_rfl) (by kernel_rfl) ?_
    repeat (go_big_quiet_step (first
      | (go_at_call 35; with_reducible exact Calls.kept _ (Nat.le_refl _) (HA.out.1 _))
      | (go_at_call 43; with_reducible exact Calls.kept _ (Nat.le_refl _) (HA.out.2.1 _))
      | (go_at_call 33; with_reducible exact Calls.kept _ (Nat.le_refl _) (HA.out.2.2.1 _))
      | (go_at_call 44; with_reducible exact Calls.kept _ (Nat.le_refl _) (HA.out.2.2.2.1 _))
      | (go_at_call 37; with_reducible exact Calls.kept _ (Nat.le_refl _) (HA.out.2.2.2.2.1 _))
      | (go_at_call 37; with_reducible exact Calls.kept _ (Nat.le_refl _) (HA.out.2.2.2.2.2 _))))
    refine wpQuiet_nil ?_
    rintro _ ⟨s, rfl⟩
    have B9 := after B7 B7.size s.below
    clear k0 k1 k2 k3 k4 k5 k6 k7 k8 k9 k10 k11 k12 k13 k14 k15 HA
    generalize s.w = W9 at *
    go_wp2_with fail
    go_ret
    exact ⟨rfl, B9⟩
section
variable {H : Type} {enc : TypeId × Value → H} {W : World} {base : Nat}
theorem arenaActs.arenaActs_law (W : World) {v0 v1 : Value} {d0 d1 : DataW H} {p0 p1 : List MemPlace}
    (h0 : DataW.Trod enc Try.prog W 0 (fun _ => true) true 46 v0 d0 p0) (h1 : DataW.Trod enc Try.prog W 0 (fun _ => true) true 48 v1 d1 p1)
    (k0 : Value.okWide Try.prog W .any base 46 v0) (k1 : Value.okWide Try.prog W .any base 48 v1) :
    Calls Try.prog 11 #[v0, v1] W (TPost W) := by
  obtain ⟨gv, lv, gs, ls, rfl, hg, hl⟩ := arena_arg h0 k0
  obtain ⟨at_, gen, rfl⟩ := id_arg h1 k1
  exact arenaActs_walk gv lv gs ls at_ gen W hg hl
end
end Go.Proofs.Ytlcefgdiclpcjaa
