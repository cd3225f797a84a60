/- The walk of 'ArenaKeeps'. -/
import Derived.Test.YtlcefgdiclpcjaaArM
import Derived.Test.YtlcefgdiclpcjaaArN0
import Derived.Test.YtlcefgdiclpcjaaArI
namespace Go.Proofs.Ytlcefgdiclpcjaa
open Go.RowKit Go.Bx Go.ChangeShapes Go.WideShapes Go.ChangeAt
attribute [local go_sem ↓] Go.wp_at_zero Go.wp_at_succ
set_option linter.unusedVariables false

theorem own_offI {w : World} {B : Nat} {a : Option Addr} {n c g : Nat} {gs : List Int} {cs : Array Value} {t : TypeId} (h : OwnI w B (.slice a n c) gs) (hg : w.heap[g]? = some (.cells cs t (0, 0))) (ht : 3 ≠ t) : ∀ x, a = some x → x.block ≠ g := by
  rintro x rfl rfl
  rcases h.form with ⟨h1, _⟩ | ⟨g, cap, h1, _, _, _, _, ⟨cur, hc⟩, _⟩
  · cases h1
  · cases h1
    rw [hg] at hc
    simp at hc
    exact ht hc.2.symm
theorem own_offB {w : World} {B : Nat} {a : Option Addr} {n c g : Nat} {gs : List Bool} {cs : Array Value} {t : TypeId} (h : OwnB w B (.slice a n c) gs) (hg : w.heap[g]? = some (.cells cs t (0, 0))) (ht : 4 ≠ t) : ∀ x, a = some x → x.block ≠ g := by
  rintro x rfl rfl
  rcases h.form with ⟨h1, _⟩ | ⟨g, cap, h1, _, _, _, _, ⟨cur, hc⟩, _⟩
  · cases h1
  · cases h1
    rw [hg] at hc
    simp at hc
    exact ht hc.2.symm
/-- what stands in memory while both answers are spoilt -/
def KI (n3 n5 nb nc gb gcb lcb p4 n p8 ng q8 nl : Nat) (sl4 : Value) (W3 wr : World) : Prop :=
  (n3 ≤ gb ∧ gb < nb ∧ nb < n5 ∧ n5 ≤ nc ∧ n5 ≤ gcb ∧ gcb < nc ∧ n5 ≤ lcb ∧ lcb < nc ∧ gcb ≠ lcb) ∧ (∃ G : List Int, G.length = n ∧ OwnI wr n3 (.slice (some ⟨gb, 0, none⟩) n p4) G) ∧ (∃ G : List Int, G.length = ng ∧ OwnI wr n5 (.slice (some ⟨gcb, 0, none⟩) ng p8) G) ∧
    (∃ L : List Bool, L.length = nl ∧ OwnB wr n5 (.slice (some ⟨lcb, 0, none⟩) nl q8) L) ∧ Box wr nb [.slice (some ⟨gb, 0, none⟩) n p4, sl4] ∧ Box wr nc [.slice (some ⟨gcb, 0, none⟩) ng p8, .slice (some ⟨lcb, 0, none⟩) nl q8] ∧ Below n3 W3 wr
section
variable {n3 n5 nb nc gb gcb lcb p4 n p8 ng q8 nl : Nat} {sl4 : Value} {W3 wr : World}
theorem own_at {w : World} {B g n c : Nat} {G : List Int} (h : OwnI w B (.slice (some ⟨g, 0, none⟩) n c) G) (hn : G.length = n) {k : Nat} (hk : k < n) : (∃ v, w.cell? ⟨g, k, none⟩ = some v) ∧ w.frozen? ⟨g, k, none⟩ = false := by
  rcases h.form with ⟨h1, _⟩ | ⟨g', cap, h1, _, _, _, _, _, hf, hc⟩
  · cases h1
  · cases h1
    exact ⟨⟨_, hc k (by omega)⟩, hf k⟩
theorem own_atB {w : World} {B g n c : Nat} {G : List Bool} (h : OwnB w B (.slice (some ⟨g, 0, none⟩) n c) G) (hn : G.length = n) {k : Nat} (hk : k < n) : (∃ v, w.cell? ⟨g, k, none⟩ = some v) ∧ w.frozen? ⟨g, k, none⟩ = false := by
  rcases h.form with ⟨h1, _⟩ | ⟨g', cap, h1, _, _, _, _, _, hf, hc⟩
  · cases h1
  · cases h1
    exact ⟨⟨_, hc k (by omega)⟩, hf k⟩
theorem KI.setG (h : KI n3 n5 nb nc gb gcb lcb p4 n p8 ng q8 nl sl4 W3 wr) (k : Nat) (x : Int) : KI n3 n5 nb nc gb gcb lcb p4 n p8 ng q8 nl sl4 W3 (wr.setCell ⟨gb, k, none⟩ (.int .i64 x)) := by
  obtain ⟨hh, ⟨G, hG, o1⟩, ⟨G2, hG2, o2⟩, ⟨L, hL, o3⟩, b1, b2, hb⟩ := h
  refine ⟨hh, ⟨G.set k x, by simp [hG], ?_⟩, ⟨G2, hG2, o2.put (p := ⟨gb, k, none⟩) (by simp only; omega) _⟩, ⟨L, hL, o3.put (p := ⟨gb, k, none⟩) (by simp only; omega) _⟩, b1.set (p := ⟨gb, k, none⟩) (by simp only; omega) _, b2.set (p := ⟨gb, k, none⟩) (by simp only; omega) _, hb.setCell (p := ⟨gb, k, none⟩) hh.1 _⟩
  subst hG
  exact o1.stored k x
theorem KI.setL (h : KI n3 n5 nb nc gb gcb lcb p4 n p8 ng q8 nl sl4 W3 wr) (k : Nat) (x : Bool) : KI n3 n5 nb nc gb gcb lcb p4 n p8 ng q8 nl sl4 W3 (wr.setCell ⟨lcb, k, none⟩ (.bool x)) := by
  obtain ⟨hh, ⟨G, hG, o1⟩, ⟨G2, hG2, o2⟩, ⟨L, hL, o3⟩, b1, b2, hb⟩ := h
  refine ⟨hh, ⟨G, hG, o1.put' (p := ⟨lcb, k, none⟩) (fun y hy => by cases hy; simp only; omega) _⟩, ⟨G2, hG2, o2.put' (p := ⟨lcb, k, none⟩) (fun y hy => by cases hy; simp only; omega) _⟩, ⟨L.set k x, by simp [hL], ?_⟩, b1.set (p := ⟨lcb, k, none⟩) (by simp only; omega) _, b2.set (p := ⟨lcb, k, none⟩) (by simp only; omega) _, hb.setCell (p := ⟨lcb, k, none⟩) (by simp only; omega) _⟩
  subst hL
  exact o3.stored k x
theorem KI.setC (h : KI n3 n5 nb nc gb gcb lcb p4 n p8 ng q8 nl sl4 W3 wr) (k : Nat) (x : Int) : KI n3 n5 nb nc gb gcb lcb p4 n p8 ng q8 nl sl4 W3 (wr.setCell ⟨gcb, k, none⟩ (.int .i64 x)) := by
  obtain ⟨hh, ⟨G, hG, o1⟩, ⟨G2, hG2, o2⟩, ⟨L, hL, o3⟩, b1, b2, hb⟩ := h
  refine ⟨hh, ⟨G, hG, o1.put' (p := ⟨gcb, k, none⟩) (fun y hy => by cases hy; simp only; omega) _⟩, ⟨G2.set k x, by simp [hG2], ?_⟩, ⟨L, hL, o3.put' (p := ⟨gcb, k, none⟩) (fun y hy => by cases hy; simp only; omega) _⟩, b1.set (p := ⟨gcb, k, none⟩) (by simp only; omega) _, b2.set (p := ⟨gcb, k, none⟩) (by simp only; omega) _, hb.setCell (p := ⟨gcb, k, none⟩) (by simp only; omega) _⟩
  subst hG2
  exact o2.stored k x
theorem KI.atG (h : KI n3 n5 nb nc gb gcb lcb p4 n p8 ng q8 nl sl4 W3 wr) {k : Nat} (hk : k < n) : (∃ v, wr.cell? ⟨gb, k, none⟩ = some v) ∧ wr.frozen? ⟨gb, k, none⟩ = false := by
  obtain ⟨hh, ⟨G, hG, o1⟩, _⟩ := h
  exact own_at o1 hG hk
theorem KI.atC (h : KI n3 n5 nb nc gb gcb lcb p4 n p8 ng q8 nl sl4 W3 wr) {k : Nat} (hk : k < ng) : (∃ v, wr.cell? ⟨gcb, k, none⟩ = some v) ∧ wr.frozen? ⟨gcb, k, none⟩ = false := by
  obtain ⟨hh, _, ⟨G, hG, o1⟩, _⟩ := h
  exact own_at o1 hG hk
theorem KI.atL (h : KI n3 n5 nb nc gb gcb lcb p4 n p8 ng q8 nl sl4 W3 wr) {k : Nat} (hk : k < nl) : (∃ v, wr.cell? ⟨lcb, k, none⟩ = some v) ∧ wr.frozen? ⟨lcb, k, none⟩ = false := by
  obtain ⟨hh, _, _, ⟨G, hG, o1⟩, _⟩ := h
  exact own_atB o1 hG hk
end
/-- what the operations of 'was := ..' yield -/
def KT (n n2 : Nat) (gv lv : Value) (gs : List Int) (ls : List Bool) (i : Nat) (v : Value) (W : World) : Prop := match i with
  | 0 => ∃ g, v = .slice (some ⟨g, 0, none⟩) 0 0 ∧ W.ownsRow n2 3 1 (.slice (some ⟨g, 0, none⟩) 0 0) 0 []
  | 1 => v = .pointer (some ⟨n, 0, none⟩)
  | 2 => v = gv
  | 3 => ∃ a c, v = .slice a gs.length c ∧ OwnI W n2 (.slice a gs.length c) gs
  | 4 => ∃ g, v = .slice (some ⟨g, 0, none⟩) 0 0 ∧ W.ownsRow n2 4 1 (.slice (some ⟨g, 0, none⟩) 0 0) 0 []
  | 5 => v = .pointer (some ⟨n, 1, none⟩)
  | 6 => v = lv
  | 7 => ∃ a c, v = .slice a ls.length c ∧ OwnB W n2 (.slice a ls.length c) ls
  | 8 => ∃ a c b d, v = .agg #[.slice a gs.length c, .slice b ls.length d] ∧ OwnI W n2 (.slice a gs.length c) gs ∧ OwnB W n2 (.slice b ls.length d) ls
  | 9 => ∃ g, v = .pointer (some ⟨g, 0, none⟩) ∧ n2 ≤ g ∧ W.heap[g]? = some (.cells #[.slice none 0 0, .slice none 0 0] 46 (0, 0))
  | _ => True
theorem KT.stab {n n2 : Nat} {gv lv : Value} {gs : List Int} {ls : List Bool} (i : Nat) (v : Value) (W W' : World) (h : KT n n2 gv lv gs ls i v W) (hb : Below W.heap.size W W') : KT n n2 gv lv gs ls i v W' := by
  match i, h with
  | 0, ⟨g, h1, h2⟩ => exact ⟨g, h1, owns_below h2 hb (Nat.le_refl _)⟩
  | 1, h => exact h
  | 2, h => exact h
  | 3, ⟨a, c, h1, h2⟩ => exact ⟨a, c, h1, h2.below hb⟩
  | 4, ⟨g, h1, h2⟩ => exact ⟨g, h1, owns_below h2 hb (Nat.le_refl _)⟩
  | 5, h => exact h
  | 6, h => exact h
  | 7, ⟨a, c, h1, h2⟩ => exact ⟨a, c, h1, h2.below hb⟩
  | 8, ⟨a, c, b, d, h1, h2, h3⟩ => exact ⟨a, c, b, d, h1, h2.below hb, h3.below hb⟩
  | 9, ⟨g, h1, h2, h3⟩ => exact ⟨g, h1, h2, (hb.block g (Array.getElem?_eq_some_iff.1 h3).1).trans h3⟩
  | _ + 10, _ => trivial

set_option maxHeartbeats 3200000 in
theorem arenaKeeps_walk (gv lv : Value) (gs : List Int) (ls : List Bool) (at_ gen : Int) (w : World) (hg : SlOf RInt 1 (· < w.heap.size) w gv gs) (hl : SlOf RBool 1 (· < w.heap.size) w lv ls) :
    Calls Try.prog 10 #[.agg #[gv, lv], .agg #[.int .i64 at_, .int .i64 gen]] w (TPost w) := by
  have hI : Hid (∀ W, Below w.heap.size w W → SlOf RInt 1 (· < w.heap.size) W gv gs) := fun W hb => hg.same RInt.ok (Same.of_below hb (fun _ h => h))
  have hB : Hid (∀ W, Below w.heap.size w W → SlOf RBool 1 (· < w.heap.size) W lv ls) := fun W hb => hl.same RBool.ok (Same.of_below hb (fun _ h => h))
  have hin : Hid (∀ x ∈ gs, In64 x) := by obtain ⟨_, _, _, _, _, h, _⟩ := hg.ints; exact h
  clear hg hl
  have X0 := (Box.new w [gv, lv] 46).alloc (.cells #[.int .i64 at_, .int .i64 gen] 48)
  have Y0 := Box.new (w.alloc (.cells #[gv, lv] 46)) [.int .i64 at_, .int .i64 gen] 48
  rw [size_alloc] at Y0
  have B0 : Below w.heap.size w ((w.alloc (.cells #[gv, lv] 46)).alloc (.cells #[.int .i64 at_, .int .i64 gen] 48)) := ((Below.refl _ w).alloc (Nat.le_refl _) _).alloc (by simp) _
  go_enter Try.func10, Try.ntmps10
  go_wp2_with fail
  generalize (w.alloc (.cells #[gv, lv] 46)).alloc (.cells #[.int .i64 at_, .int .i64 gen] 48) = W0 at *
  refine (awake22_c _).mono ?_; rintro e w1 ⟨rfl, hb1⟩
  have X1 := X0.call hb1
  have Y1 := Y0.call hb1
  have B1 := after B0 B0.size hb1
  have c0 := X1.cell 0 rfl
  have c1 := X1.cell 1 rfl
  clear X0 Y0 B0 hb1
  go_wp2_with fail
  refine (right22_c _ _ gs ls _ (fun b hb => Nat.lt_of_lt_of_le hb B1.size) (hI.out _ B1) (hB.out _ B1)).mono ?_; rintro e w2 ⟨rfl, hb2⟩
  clear c0 c1
  have X2 := X1.call hb2
  have Y2 := Y1.call hb2
  have B2 := after B1 B1.size hb2
  have c0 := X2.cell 0 rfl
  have c1 := X2.cell 1 rfl
  clear X1 Y1 B1 hb2
  obtain ⟨ok, hok⟩ : ∃ ok, ok = okA gs ls := ⟨_, rfl⟩
  rw [← hok]
  cases ok
  · go_wp2_with fail
    refine (awake22_c _).mono ?_; rintro e w3 ⟨rfl, hb3⟩
    have B3 := after B2 B2.size hb3
    go_wp2_with fail
    go_ret
    exact ⟨rfl, B3⟩
  · obtain ⟨hlen, hpos, h1024, hnn, hcalm, hz0, hz1⟩ := okA_parts hok.symm
    have HN : Hid (gs.length = ls.length) := hlen
    have HC : Hid (∀ x ∈ gs, x < 9223372036854775807) := fun x hx => by have := hcalm x hx; omega
    obtain ⟨ga, gc, hgv, _, hgm, _, hgcell⟩ := (hI.out _ B2).ints
    obtain ⟨la, lc, hlv, _, hlm, hlcell⟩ := (hB.out _ B2).bools
    have HS : Hid (gv = .slice ga gs.length gc ∧ lv = .slice la ls.length lc) := ⟨hgv, hlv⟩
    have HCl : Hid ((∀ i, i < gs.length → ∃ b o, ga = some ⟨b, o, none⟩ ∧ b < w.heap.size ∧ ∀ j, j < gs.length → w2.cell? ⟨b, o + j, none⟩ = some (.int .i64 (gs.getD j 0))) ∧ ∀ i, i < ls.length → ∃ b o, la = some ⟨b, o, none⟩ ∧ b < w.heap.size ∧ ∀ j, j < ls.length → w2.cell? ⟨b, o + j, none⟩ = some (.bool (ls.getD j false))) := ⟨hgcell, hlcell⟩
    have H1024 : Hid (1 ≤ gs.length ∧ ls.length ≤ 1024) := ⟨hpos, h1024⟩
    clear hok hlen hcalm hnn hz0 hz1 hpos hgcell hlcell hgm hlm hgv hlv h1024
    go_wp2_with fail
    rename_i K hK
    refine wp_region_mono (KT w.heap.size w2.heap.size gv lv gs ls) 10 _ rfl rfl (by kernel_rfl) (by kernel_rfl) KT.stab ?hop ?hlast
    case hop =>
      refine Each.get (n := 10) ⟨⟨⟨⟨⟨⟨⟨⟨⟨⟨trivial, ?h0⟩, ?h1⟩, ?h2⟩, ?h3⟩, ?h4⟩, ?h5⟩, ?h6⟩, ?h7⟩, ?h8⟩, ?h9⟩
      case h0 =>
        refine OpOk.plain (by kernel_rfl) _ rfl rfl fun vs ev W hf hb hd => ?_
        clear hK
        refine gives_mono (R := fun v w' => v = .slice (some ⟨W.heap.size, 0, none⟩) 0 0 ∧ w' = W.alloc (.cells #[] 3)) (by simp [gives, go_sem]) ?_
        rintro _ _ ⟨rfl, rfl⟩
        exact ⟨⟨_, rfl, World.ownsRow_made W #[] 0 hb.size (Nat.zero_le _) (by simp)⟩, (Below.refl _ _).alloc (Nat.le_refl _) _⟩
      case h1 =>
        refine OpOk.plain (by kernel_rfl) _ rfl rfl fun vs ev W hf hb hd => ?_
        have e : ev (.tmp 2) = .pointer (some ⟨w.heap.size, 0, none⟩) := hf.off 2 rfl
        clear hK
        exact gives_mono (R := fun v w' => v = .pointer (some ⟨w.heap.size, 0, none⟩) ∧ w' = W) (by simp [gives, go_sem, e]) fun _ _ ⟨h1, h2⟩ => by subst h2; exact ⟨h1, Below.refl _ _⟩
      case h2 =>
        refine OpOk.plain (by kernel_rfl) _ rfl rfl fun vs ev W hf hb hd => ?_
        have e : ev (.tmp 22) = .pointer (some ⟨w.heap.size, 0, none⟩) := (hf.of 1 _ 22 rfl rfl rfl (of_decide_eq_true rfl)).trans (hd 1 (by kernel_rfl))
        have d0 := (hb.cell (lt_of_cell c0)).trans c0
        clear hK
        exact gives_mono (R := fun v w' => v = gv ∧ w' = W) (by simp [gives, go_sem, e, d0]) fun _ _ ⟨h1, h2⟩ => by subst h2; exact ⟨h1, Below.refl _ _⟩
      case h3 =>
        refine OpOk.plain (by kernel_rfl) _ rfl rfl fun vs ev W hf hb hd => ?_
        obtain ⟨g, h1, h2⟩ := hd 0 (by kernel_rfl)
        have e1 : ev (.tmp 21) = .slice (some ⟨g, 0, none⟩) 0 0 := (hf.of 0 _ 21 rfl rfl rfl (of_decide_eq_true rfl)).trans h1
        have e2 : ev (.tmp 23) = .slice ga gs.length gc := ((hf.of 2 _ 23 rfl rfl rfl (of_decide_eq_true rfl)).trans (hd 2 (by kernel_rfl))).trans HS.out.1
        obtain ⟨i3, hi3, hz0, hz1, hz2⟩ := info_parts infoI
        obtain ⟨a', c', W', hr, ho, hbl⟩ := app_empty (P := Try.prog) 41 3 i3 (.int .i64 0) 8 Try.underlying41 hi3 hz0 hz1 hz2 rfl h2 ga gs.length gc (gs.map (Value.int .i64)) (by simp) (by
          intro b hbe j u hu
          have hj : j < gs.length := by have := (List.getElem?_eq_some_iff.1 hu).1; simpa using this
          obtain ⟨b', o, h1, h3, h2⟩ := HCl.out.1 j hj
          rw [hbe] at h1
          cases h1
          rw [Go.WideShapes.add_plain, (hb.cell (p := ⟨b', o + j, none⟩) (Nat.lt_of_lt_of_le h3 B2.size)).trans (h2 j hj), ← hu]
          simp [hj]) (by intro u hu; obtain ⟨x, _, rfl⟩ := List.mem_map.1 hu; rfl) (by
          intro hn
          by_cases h : gs.length = 0
          · exact h
          · obtain ⟨b', o, h1, _⟩ := HCl.out.1 0 (by omega)
            rw [hn] at h1; cases h1) (by have := H1024.out; have := HN.out; unfold maxLen; omega) (by have := H1024.out; have := HN.out; omega) hb.size
        clear hK
        refine gives_mono (R := fun v w' => v = .slice a' gs.length c' ∧ w' = W') (by unfold gives; simp [execOp, resolve, invoke, builtin, e1, e2, hr, Result.andThen]) ?_
        rintro _ _ ⟨rfl, rfl⟩
        exact ⟨⟨_, _, rfl, ho⟩, hbl⟩
      case h4 =>
        refine OpOk.plain (by kernel_rfl) _ rfl rfl fun vs ev W hf hb hd => ?_
        clear hK
        refine gives_mono (R := fun v w' => v = .slice (some ⟨W.heap.size, 0, none⟩) 0 0 ∧ w' = W.alloc (.cells #[] 4)) (by simp [gives, go_sem]) ?_
        rintro _ _ ⟨rfl, rfl⟩
        exact ⟨⟨_, rfl, World.ownsRow_made W #[] 0 hb.size (Nat.zero_le _) (by simp)⟩, (Below.refl _ _).alloc (Nat.le_refl _) _⟩
      case h5 =>
        refine OpOk.plain (by kernel_rfl) _ rfl rfl fun vs ev W hf hb hd => ?_
        have e : ev (.tmp 2) = .pointer (some ⟨w.heap.size, 0, none⟩) := hf.off 2 rfl
        clear hK
        exact gives_mono (R := fun v w' => v = .pointer (some ⟨w.heap.size, 1, none⟩) ∧ w' = W) (by simp [gives, go_sem, e]) fun _ _ ⟨h1, h2⟩ => by subst h2; exact ⟨h1, Below.refl _ _⟩
      case h6 =>
        refine OpOk.plain (by kernel_rfl) _ rfl rfl fun vs ev W hf hb hd => ?_
        have e : ev (.tmp 26) = .pointer (some ⟨w.heap.size, 1, none⟩) := (hf.of 5 _ 26 rfl rfl rfl (of_decide_eq_true rfl)).trans (hd 5 (by kernel_rfl))
        have d0 := (hb.cell (lt_of_cell c1)).trans c1
        clear hK
        exact gives_mono (R := fun v w' => v = lv ∧ w' = W) (by simp [gives, go_sem, e, d0]) fun _ _ ⟨h1, h2⟩ => by subst h2; exact ⟨h1, Below.refl _ _⟩
      case h7 =>
        refine OpOk.plain (by kernel_rfl) _ rfl rfl fun vs ev W hf hb hd => ?_
        obtain ⟨g, h1, h2⟩ := hd 4 (by kernel_rfl)
        have e1 : ev (.tmp 25) = .slice (some ⟨g, 0, none⟩) 0 0 := (hf.of 4 _ 25 rfl rfl rfl (of_decide_eq_true rfl)).trans h1
        have e2 : ev (.tmp 27) = .slice la ls.length lc := ((hf.of 6 _ 27 rfl rfl rfl (of_decide_eq_true rfl)).trans (hd 6 (by kernel_rfl))).trans HS.out.2
        obtain ⟨i3, hi3, hz0, hz1, hz2⟩ := info_parts infoB
        obtain ⟨a', c', W', hr, ho, hbl⟩ := app_empty (P := Try.prog) 44 4 i3 (.bool false) 1 Try.underlying44 hi3 hz0 hz1 hz2 rfl h2 la ls.length lc (ls.map Value.bool) (by simp) (by
          intro b hbe j u hu
          have hj : j < ls.length := by have := (List.getElem?_eq_some_iff.1 hu).1; simpa using this
          obtain ⟨b', o, h1, h3, h2⟩ := HCl.out.2 j hj
          rw [hbe] at h1
          cases h1
          rw [Go.WideShapes.add_plain, (hb.cell (p := ⟨b', o + j, none⟩) (Nat.lt_of_lt_of_le h3 B2.size)).trans (h2 j hj), ← hu]
          simp [hj]) (by intro u hu; obtain ⟨x, _, rfl⟩ := List.mem_map.1 hu; rfl) (by
          intro hn
          by_cases h : ls.length = 0
          · exact h
          · obtain ⟨b', o, h1, _⟩ := HCl.out.2 0 (by omega)
            rw [hn] at h1; cases h1) (by have := H1024.out; unfold maxLen; omega) (by have := H1024.out; omega) hb.size
        clear hK
        refine gives_mono (R := fun v w' => v = .slice a' ls.length c' ∧ w' = W') (by unfold gives; simp [execOp, resolve, invoke, builtin, e1, e2, hr, Result.andThen]) ?_
        rintro _ _ ⟨rfl, rfl⟩
        exact ⟨⟨_, _, rfl, ho⟩, hbl⟩
      case h8 =>
        refine OpOk.plain (by kernel_rfl) _ rfl rfl fun vs ev W hf hb hd => ?_
        obtain ⟨a, c, h1, h2⟩ := hd 3 (by kernel_rfl)
        obtain ⟨b, d, h3, h4⟩ := hd 7 (by kernel_rfl)
        have e1 := (hf.of 3 _ 24 rfl rfl rfl (of_decide_eq_true rfl)).trans h1
        have e2 := (hf.of 7 _ 28 rfl rfl rfl (of_decide_eq_true rfl)).trans h3
        clear hK
        refine gives_mono (R := fun v w' => v = .agg #[.slice a gs.length c, .slice b ls.length d] ∧ w' = W) (by simp [gives, go_sem, e1, e2]) ?_
        rintro _ _ ⟨rfl, rfl⟩
        exact ⟨⟨a, c, b, d, rfl, h2, h4⟩, Below.refl _ _⟩
      case h9 =>
        refine OpOk.plain (by kernel_rfl) _ rfl rfl fun vs ev W hf hb hd => ?_
        clear hK
        refine gives_mono (R := fun v w' => v = .pointer (some ⟨W.heap.size, 0, none⟩) ∧ w' = W.alloc (.cells #[.slice none 0 0, .slice none 0 0] 46)) (by simp [gives, go_sem]) ?_
        rintro _ _ ⟨rfl, rfl⟩
        exact ⟨⟨_, rfl, hb.size, heap_alloc_new W _⟩, (Below.refl _ _).alloc (Nat.le_refl _) _⟩
    case hlast =>
      intro vs W hb hT
      obtain ⟨a, c, b, d, h1, h2, h3⟩ := hT 8 (by decide)
      obtain ⟨g, h4, h5, h6⟩ := hT 9 (by decide)
      refine last_plain (by kernel_rfl) rfl fun F ev hF hf => ?_
      have e1 := (hf.of 8 _ 29 rfl rfl rfl (of_decide_eq_true rfl)).trans h1
      have e2 := (hf.of 9 _ 5 rfl rfl rfl (of_decide_eq_true rfl)).trans h4
      have x0 : Box W g [.slice none 0 0, .slice none 0 0] := ⟨_, h6⟩
      have q0 := x0.cell 0 rfl
      have q1 := x0.cell 1 rfl
      have f0 := x0.frozen 0
      have f1 := x0.frozen 1
      refine gives_mono (R := fun v w' => v = undef ∧ w' = (W.setCell ⟨g, 0, none⟩ (.slice a gs.length c)).setCell ⟨g, 1, none⟩ (.slice b ls.length d)) (by simp [gives, go_sem, e1, e2, q0, q1, f0, f1]) ?_
      rintro _ _ ⟨rfl, rfl⟩
      subst hF
      simp [fr, Act.put, h1, h4]
      generalize vs 0 = v0 at *
      generalize vs 1 = v1 at *
      generalize vs 2 = v2 at *
      generalize vs 3 = v3 at *
      generalize vs 4 = v4 at *
      generalize vs 5 = v5 at *
      generalize vs 6 = v6 at *
      generalize vs 7 = v7 at *
      clear hT hf h1 h4 e1 e2
      have W3X : Box ((W.setCell ⟨g, 0, none⟩ (.slice a gs.length c)).setCell ⟨g, 1, none⟩ (.slice b ls.length d)) g [.slice a gs.length c, .slice b ls.length d] := (x0.self 0 _).self 1 _
      have o1 := (h2.put' (p := ⟨g, 0, none⟩) (own_offI h2 h6 (by decide)) (.slice a gs.length c)).put' (p := ⟨g, 1, none⟩) (own_offI h2 h6 (by decide)) (.slice b ls.length d)
      have o2 := (h3.put' (p := ⟨g, 0, none⟩) (own_offB h3 h6 (by decide)) (.slice a gs.length c)).put' (p := ⟨g, 1, none⟩) (own_offB h3 h6 (by decide)) (.slice b ls.length d)
      have b3 : Below w2.heap.size w2 ((W.setCell ⟨g, 0, none⟩ (.slice a gs.length c)).setCell ⟨g, 1, none⟩ (.slice b ls.length d)) := (hb.setCell (p := ⟨g, 0, none⟩) h5 _).setCell (p := ⟨g, 1, none⟩) h5 _
      refine hK _ _ ?_
      clear hK x0 q0 q1 f0 f1 h2 h3 h6 hb HCl HS c0 c1
      generalize ((W.setCell ⟨g, 0, none⟩ (.slice a gs.length c)).setCell ⟨g, 1, none⟩ (.slice b ls.length d)) = W3 at *
      clear W
      have X3 := X2.call b3
      have Y3 := Y2.call b3
      have B3 := after B2 B2.size b3
      have W3Y := W3X
      have X7 := X3
      have HO : Hid (OwnI W3 w2.heap.size (.slice a gs.length c) gs ∧ OwnB W3 w2.heap.size (.slice b ls.length d) ls) := ⟨o1, o2⟩
      have c0 := X3.cell 0 rfl
      have c1 := X3.cell 1 rfl
      clear X2 Y2 B2 b3 o1 o2
      go_wp2_with fail
      refine (take_c _ _ gs ls _ HN.out H1024.out.2 (fun b hb => Nat.lt_of_lt_of_le hb B3.size) (hI.out _ B3) (hB.out _ B3)).mono ?_; rintro e w4 ⟨a4, p4, b4, q4, rfl, g4, l4, hb4⟩
      have hGl : 1 ≤ (tkG gs ls).length := by
        have := H1024.out.1
        unfold tkG
        split
        · exact this
        · split
          · simp
          · exact this
      have hGm : (tkG gs ls).length ≤ 2000 := by
        have := H1024.out.2; have := HN.out
        unfold tkG
        split
        · omega
        · split
          · simp; omega
          · omega
      clear c0 c1
      generalize tkG gs ls = G at *
      generalize tkL ls = L at *
      generalize tkAt ls = A at *
      generalize tkGen gs ls = N at *
      generalize tkOk ls = O at *
      obtain ⟨g4b, hg4b, h34, h4s⟩ : ∃ g4b, a4 = some ⟨g4b, 0, none⟩ ∧ W3.heap.size ≤ g4b ∧ g4b < w4.heap.size := by
        rcases g4.form with ⟨h, h'⟩ | ⟨g', cap, h, h1, h2, _⟩
        · rw [h'] at hGl; simp at hGl
        · cases h; exact ⟨_, rfl, h1, h2⟩
      subst hg4b
      have U5 := (Box.new w4 [.slice (some ⟨g4b, 0, none⟩) G.length p4, .slice b4 L.length q4] 46).alloc (.cells #[.int .i64 A, .int .i64 N] 48)
      have X5 := ((X3.call hb4).alloc (.cells #[.slice (some ⟨g4b, 0, none⟩) G.length p4, .slice b4 L.length q4] 46)).alloc (.cells #[.int .i64 A, .int .i64 N] 48)
      have Y5 := ((Y3.call hb4).alloc (.cells #[.slice (some ⟨g4b, 0, none⟩) G.length p4, .slice b4 L.length q4] 46)).alloc (.cells #[.int .i64 A, .int .i64 N] 48)
      have Z5 := ((W3X.call hb4).alloc (.cells #[.slice (some ⟨g4b, 0, none⟩) G.length p4, .slice b4 L.length q4] 46)).alloc (.cells #[.int .i64 A, .int .i64 N] 48)
      have B5 : Below W3.heap.size W3 ((w4.alloc (.cells #[.slice (some ⟨g4b, 0, none⟩) G.length p4, .slice b4 L.length q4] 46)).alloc (.cells #[.int .i64 A, .int .i64 N] 48)) := (hb4.alloc hb4.size _).alloc (hb4.alloc hb4.size _).size _
      have g5 := (g4.alloc (.cells #[.slice (some ⟨g4b, 0, none⟩) G.length p4, .slice b4 L.length q4] 46)).alloc (.cells #[.int .i64 A, .int .i64 N] 48)
      have s5 : ((w4.alloc (.cells #[.slice (some ⟨g4b, 0, none⟩) G.length p4, .slice b4 L.length q4] 46)).alloc (.cells #[.int .i64 A, .int .i64 N] 48)).heap.size = w4.heap.size + 2 := by rw [size_alloc, size_alloc]
      have c0 := X5.cell 0 rfl
      have c1 := X5.cell 1 rfl
      have c2 := Y5.cell 0 rfl
      have c3 := Y5.cell 1 rfl
      clear g4 l4 hb4 X3 Y3 W3X
      go_wp2_with fail
      generalize ((w4.alloc (.cells #[.slice (some ⟨g4b, 0, none⟩) G.length p4, .slice b4 L.length q4] 46)).alloc (.cells #[.int .i64 A, .int .i64 N] 48)) = W5 at *
      generalize w4.heap.size = nb at *
      clear w4
      have B5' := after B3 B3.size B5
      refine (free_c _ _ gs ls at_ gen _ HN.out (Nat.le_trans H1024.out.2 (by decide)) HC.out (fun b hb => Nat.lt_of_lt_of_le hb B5'.size) (hI.out _ B5') (hB.out _ B5')).mono ?_; rintro e w6 ⟨a8, p8, b8, q8, rfl, g8, l8, hb8⟩
      have HF : Hid ((frG gs ls at_ gen).length = (frL gs ls at_ gen).length ∧ 1 ≤ (frG gs ls at_ gen).length) := by
        have := HN.out; have := H1024.out.1
        unfold frG frL
        constructor <;> split <;> first | (simp; omega) | omega
      have hLm : (frL gs ls at_ gen).length ≤ 2000 := by
        have := H1024.out.2
        unfold frL
        split
        · simp; omega
        · omega
      clear c0 c1 c2 c3 B5' Y5
      generalize frG gs ls at_ gen = G8 at *
      generalize frL gs ls at_ gen = L8 at *
      generalize frOk gs ls at_ gen = O8 at *
      have U7 := (U5.call hb8).alloc (.cells #[.slice a8 G8.length p8, .slice b8 L8.length q8] 46)
      have V7 := Box.new w6 [.slice a8 G8.length p8, .slice b8 L8.length q8] 46
      have g7 := (g5.below hb8).alloc (.cells #[.slice a8 G8.length p8, .slice b8 L8.length q8] 46)
      have g9 := g8.alloc (.cells #[.slice a8 G8.length p8, .slice b8 L8.length q8] 46)
      have l9 := l8.alloc (.cells #[.slice a8 G8.length p8, .slice b8 L8.length q8] 46)
      have B7 := (after B5 B5.size hb8).alloc (after B5 B5.size hb8).size (.cells #[.slice a8 G8.length p8, .slice b8 L8.length q8] 46)
      obtain ⟨g8b, hg8b, h58, h86⟩ : ∃ g8b, a8 = some ⟨g8b, 0, none⟩ ∧ W5.heap.size ≤ g8b ∧ g8b < w6.heap.size := by
        rcases g8.form with ⟨h, h'⟩ | ⟨g', cap, h, h1, h2, _⟩
        · have := HF.out.2; rw [h'] at this; simp at this
        · cases h; exact ⟨_, rfl, h1, h2⟩
      subst hg8b
      obtain ⟨l8b, hl8b, h5l, hl6⟩ : ∃ l8b, b8 = some ⟨l8b, 0, none⟩ ∧ W5.heap.size ≤ l8b ∧ l8b < w6.heap.size := by
        rcases l8.form with ⟨h, h'⟩ | ⟨g', cap, h, h1, h2, _⟩
        · have h9 : L8.length = 0 := by rw [h']; rfl
          have := HF.out; omega
        · cases h; exact ⟨_, rfl, h1, h2⟩
      subst hl8b
      have hap : g8b ≠ l8b := own_apart g8 l8
      have hb6 := hb8.size
      have HZ : Hid (W5.heap.size = nb + 2) := s5
      have h5n : nb + 2 ≤ W5.heap.size := by omega
      have B5s := B5.size
      clear U5 g5 g8 l8 hb8 B5 s5 X5 Z5
      go_wp2_with fail
      generalize (w6.alloc (.cells #[.slice (some ⟨g8b, 0, none⟩) G8.length p8, .slice (some ⟨l8b, 0, none⟩) L8.length q8] 46)) = W7 at *
      generalize w6.heap.size = nc at *
      clear w6
      generalize W5.heap.size = n5 at *
      clear W5
      have I7 : KI W3.heap.size n5 nb nc g4b g8b l8b p4 G.length p8 G8.length q8 L8.length (.slice b4 L.length q4) W3 W7 := ⟨⟨h34, h4s, by omega, hb6, h58, h86, h5l, hl6, hap⟩, ⟨G, rfl, g7⟩, ⟨G8, rfl, g9⟩, ⟨L8, rfl, l9⟩, U7, V7, B7⟩
      clear g7 g9 l9 U7 V7 B7 hap h34 h4s h58 h86 h5l hl6 hb6 HZ h5n B5s
      go_loopw [11] (fun i wr => ∃ k : Nat, k ≤ G.length ∧ i = .int .i64 k ∧ KI W3.heap.size n5 nb nc g4b g8b l8b p4 G.length p8 G8.length q8 L8.length (.slice b4 L.length q4) W3 wr) (fun i _ => G.length - (intOf i).toNat)
      case atStart => exact ⟨0, by omega, rfl, I7⟩
      case round =>
        obtain ⟨k, hk, rfl, I8⟩ := hrel
        clear I7
        have x0 := I8.2.2.2.2.1.cell 0 rfl
        by_cases hlt : k < G.length
        · obtain ⟨⟨v, d1⟩, d2⟩ := I8.atG hlt
          have hk1 : (k : Int) < (G.length : Int) := by omega
          have HI : Hid (KI W3.heap.size n5 nb nc g4b g8b l8b p4 G.length p8 G8.length q8 L8.length (.slice b4 L.length q4) W3 wr) := I8
          clear I8
          go_wp2_with fail
          go_roundw
          case rel => exact ⟨k + 1, by omega, by go_num, HI.out.setG k _⟩
          case measure => simp [intOf]; omega
        · have hke : k = G.length := by omega
          subst hke
          have HI : Hid (KI W3.heap.size n5 nb nc g4b g8b l8b p4 G.length p8 G8.length q8 L8.length (.slice b4 L.length q4) W3 wr) := I8
          clear I8
          go_wp2_with fail
          obtain ⟨wm, hwm⟩ : ∃ wm : World, wm = wr := ⟨_, rfl⟩
          subst hwm
          go_loopw [12] (fun i wr => ∃ k : Nat, k ≤ L8.length ∧ i = .int .i64 k ∧ KI W3.heap.size n5 nb nc g4b g8b l8b p4 G.length p8 G8.length q8 L8.length (.slice b4 L.length q4) W3 wr) (fun i _ => L8.length - (intOf i).toNat)
          case atStart => exact ⟨0, by omega, rfl, HI.out⟩
          case round =>
            obtain ⟨k, hk, rfl, I8⟩ := hrel
            clear HI x0
            have x0 := I8.2.2.2.2.2.1.cell 0 rfl
            have x1 := I8.2.2.2.2.2.1.cell 1 rfl
            by_cases hlt : k < L8.length
            · obtain ⟨⟨v, d1⟩, d2⟩ := I8.atL hlt
              have J8 := I8.setL k false
              have y0 := J8.2.2.2.2.2.1.cell 0 rfl
              obtain ⟨⟨v', d3⟩, d4⟩ := J8.atC (k := k) (by have := HF.out; omega)
              have hk1 : (k : Int) < (L8.length : Int) := by omega
              have hk2 : (k : Int) < (G8.length : Int) := by have := HF.out; omega
              have HI : Hid (KI W3.heap.size n5 nb nc g4b g8b l8b p4 G.length p8 G8.length q8 L8.length (.slice b4 L.length q4) W3 (wr.setCell ⟨l8b, k, none⟩ (.bool false))) := J8
              clear I8 J8
              go_wp2_with fail
              go_roundw
              case rel => exact ⟨k + 1, by omega, by go_num, HI.out.setC k _⟩
              case measure => simp [intOf]; omega
            · have hke : k = L8.length := by omega
              subst hke
              have BB := I8.2.2.2.2.2.2
              have B9 := after B3 B3.size BB
              have x2 := (X7.call BB).cell 0 rfl
              have x3 := (X7.call BB).cell 1 rfl
              have x4 := (W3Y.call BB).cell 0 rfl
              have x5 := (W3Y.call BB).cell 1 rfl
              clear I8
              go_wp2_with fail
              refine (same22_c _ _ _ _ gs gs ls ls _ (hI.out _ B9) (hB.out _ B9) ((HO.out.1.below BB).sl hin.out) (HO.out.2.below BB).sl).mono ?_; rintro e w9 ⟨rfl, hb9⟩
              have BF := after B9 B9.size hb9
              go_wp2_with fail
              go_ret
              exact ⟨ret_b (by simp [sameA]), BF⟩
section
variable {H : Type} {enc : TypeId × Value → H} {W : World} {base : Nat}
theorem arenaKeeps.arenaKeeps_law (W : World) {v0 v1 : Value} {d0 d1 : DataW H} {p0 p1 : List MemPlace}
    (h0 : DataW.Trod enc Try.prog W 0 (fun _ => true) true 46 v0 d0 p0) (h1 : DataW.Trod enc Try.prog W 0 (fun _ => true) true 48 v1 d1 p1)
    (k0 : Value.okWide Try.prog W .any base 46 v0) (k1 : Value.okWide Try.prog W .any base 48 v1) :
    Calls Try.prog 10 #[v0, v1] W (TPost W) := by
  obtain ⟨gv, lv, gs, ls, rfl, hg, hl⟩ := arena_arg h0 k0
  obtain ⟨at_, gen, rfl⟩ := id_arg h1 k1
  exact arenaKeeps_walk gv lv gs ls at_ gen W hg hl
end
end Go.Proofs.Ytlcefgdiclpcjaa
