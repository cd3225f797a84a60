/- Layer 22: Free. -/
import Derived.Test.YtlcefgdiclpcjaaArF
import Derived.Test.YtlcefgdiclpcjaaArB
import Derived.OneCell
namespace Go.Proofs.Ytlcefgdiclpcjaa
open Go.RowKit Go.Bx
attribute [local go_sem ↓] Go.wp_at_zero Go.wp_at_succ
set_option linter.unusedVariables false

theorem OwnI.stored2 {w : World} {B g cap n : Nat} {gs : List Int} (hn : gs.length = n) (h : OwnI w B (.slice (some ⟨g, 0, none⟩) n cap) gs) (j : Nat) (x : Int) : OwnI (w.setCell ⟨g, j, none⟩ (.int .i64 x)) B (.slice (some ⟨g, 0, none⟩) n cap) (gs.set j x) := by
  subst hn
  have := (World.ownsRow.stored h j (.int .i64 x)).1
  unfold OwnI
  rw [List.length_set, List.map_set]
  exact this
theorem OwnB.stored2 {w : World} {B g cap n : Nat} {gs : List Bool} (hn : gs.length = n) (h : OwnB w B (.slice (some ⟨g, 0, none⟩) n cap) gs) (j : Nat) (x : Bool) : OwnB (w.setCell ⟨g, j, none⟩ (.bool x)) B (.slice (some ⟨g, 0, none⟩) n cap) (gs.set j x) := by
  subst hn
  have := (World.ownsRow.stored h j (.bool x)).1
  unfold OwnB
  rw [List.length_set, List.map_set]
  exact this
theorem own_apart2 {w : World} {B B' : Nat} {sA sB : Value} {gs : List Int} {ls : List Bool} (h : OwnI w B sA gs) (k : OwnB w B' sB ls) : ∀ g, sA.ownBlock = some g → sB.ownBlock ≠ some g := by
  intro g h1 h2
  rcases h.form with ⟨rfl, _⟩ | ⟨g1, cap, rfl, _, _, _, _, ⟨cur, hc⟩, _⟩
  · simp [Value.ownBlock] at h1
  rcases k.form with ⟨rfl, _⟩ | ⟨g2, cap', rfl, _, _, _, _, ⟨cur', hc'⟩, _⟩
  · simp [Value.ownBlock] at h2
  simp [Value.ownBlock] at h1 h2
  subst h1 h2
  rw [hc] at hc'
  simp at hc'

def frOk (gs : List Int) (ls : List Bool) (at_ gen : Int) : Bool := hasB gs ls at_ gen && !decide (at_ = 0)
def frG (gs : List Int) (ls : List Bool) (at_ gen : Int) : List Int := if frOk gs ls at_ gen = true then gs.set at_.toNat (gs.getD at_.toNat 0 + 1) else gs
def frL (gs : List Int) (ls : List Bool) (at_ gen : Int) : List Bool := if frOk gs ls at_ gen = true then ls.set at_.toNat false else ls
/-- what Free answers -/
def FrPost (w : World) (gs : List Int) (ls : List Bool) (ok : Bool) (e : Ending) (w' : World) : Prop := ∃ a p b q, e = .returned (.tuple #[.agg #[.slice a gs.length p, .slice b ls.length q], .bool ok]) ∧
  OwnI w' w.heap.size (.slice a gs.length p) gs ∧ OwnB w' w.heap.size (.slice b ls.length q) ls ∧ Below w.heap.size w w'

/-- what stands in memory while Free works -/
def FInv (w : World) (n5 : Nat) (sA sB gv lv : Value) (at_ gen : Int) (gs : List Int) (ls : List Bool) (W : World) : Prop :=
  OwnI W (w.heap.size + 3) sA gs ∧ OwnB W (w.heap.size + 3) sB ls ∧ Box W n5 [sA, sB] ∧ Box W w.heap.size [gv, lv] ∧ Box W (w.heap.size + 1) [.int .i64 at_, .int .i64 gen] ∧ Box W (w.heap.size + 1 + 1) [.slice none 0 0, .slice none 0 0] ∧ Below w.heap.size w W ∧
    (∀ k, sA.ownBlock = some k → k ≠ n5) ∧ (∀ k, sB.ownBlock = some k → k ≠ n5) ∧ w.heap.size + 3 ≤ n5
section
variable {w : World} {n5 : Nat} {sA sB gv lv : Value} {at_ gen : Int} {gs : List Int} {ls : List Bool} {W : World}
theorem FInv.call (h : FInv w n5 sA sB gv lv at_ gen gs ls W) {W' : World} (hb : Below W.heap.size W W') : FInv w n5 sA sB gv lv at_ gen gs ls W' :=
  ⟨h.1.below hb, h.2.1.below hb, h.2.2.1.call hb, h.2.2.2.1.call hb, h.2.2.2.2.1.call hb, h.2.2.2.2.2.1.call hb, after h.2.2.2.2.2.2.1 h.2.2.2.2.2.2.1.size hb, h.2.2.2.2.2.2.2⟩
theorem FInv.markB {g cap n : Nat} (h : FInv w n5 sA (.slice (some ⟨g, 0, none⟩) n cap) gv lv at_ gen gs ls W) (hn : ls.length = n) (k : Nat) (x : Bool) : FInv w n5 sA (.slice (some ⟨g, 0, none⟩) n cap) gv lv at_ gen gs (ls.set k x) (W.setCell ⟨g, k, none⟩ (.bool x)) := by
  obtain ⟨h1, h2, h3, h4, h5, h6, h7, h8, h9, h10⟩ := h
  have hg : g ≠ n5 := h9 g rfl
  have hlt := (World.ownsRow.lt h2 g rfl).1
  exact ⟨ownsRow_setCell_other h1 (a := ⟨g, k, none⟩) (fun e => own_apart2 h1 h2 g e rfl) _, h2.stored2 hn k x, h3.set (p := ⟨g, k, none⟩) (fun e => hg e.symm) _, h4.set (p := ⟨g, k, none⟩) (by simp; omega) _, h5.set (p := ⟨g, k, none⟩) (by simp; omega) _, h6.set (p := ⟨g, k, none⟩) (by simp; omega) _, h7.setCell (by simp; omega) _, h8, h9, h10⟩
theorem FInv.markI {g cap n : Nat} (h : FInv w n5 (.slice (some ⟨g, 0, none⟩) n cap) sB gv lv at_ gen gs ls W) (hn : gs.length = n) (k : Nat) (x : Int) : FInv w n5 (.slice (some ⟨g, 0, none⟩) n cap) sB gv lv at_ gen (gs.set k x) ls (W.setCell ⟨g, k, none⟩ (.int .i64 x)) := by
  obtain ⟨h1, h2, h3, h4, h5, h6, h7, h8, h9, h10⟩ := h
  have hg : g ≠ n5 := h8 g rfl
  have hlt := (World.ownsRow.lt h1 g rfl).1
  exact ⟨h1.stored2 hn k x, ownsRow_setCell_other h2 (a := ⟨g, k, none⟩) (own_apart2 h1 h2 g rfl) _, h3.set (p := ⟨g, k, none⟩) (fun e => hg e.symm) _, h4.set (p := ⟨g, k, none⟩) (by simp; omega) _, h5.set (p := ⟨g, k, none⟩) (by simp; omega) _, h6.set (p := ⟨g, k, none⟩) (by simp; omega) _, h7.setCell (by simp; omega) _, h8, h9, h10⟩
end
theorem fr_fin {w W : World} {n5 : Nat} {a b : Option Addr} {p q n m : Nat} {gv lv : Value} {gs : List Int} {ls : List Bool} {at_ gen : Int} (h : FInv w n5 (.slice a n p) (.slice b m q) gv lv at_ gen gs ls W) (W' : World)
    (hW : W' = (W.setCell ⟨w.heap.size + 1 + 1, 0, none⟩ (.slice a n p)).setCell ⟨w.heap.size + 1 + 1, 1, none⟩ (.slice b m q)) :
    OwnI W' w.heap.size (.slice a n p) gs ∧ OwnB W' w.heap.size (.slice b m q) ls ∧ Below w.heap.size w W' ∧ W'.cell? ⟨w.heap.size + 1 + 1, 0, none⟩ = some (.slice a n p) ∧ W'.cell? ⟨w.heap.size + 1 + 1, 1, none⟩ = some (.slice b m q) := by
  subst hW
  obtain ⟨h1, h2, h3, h4, h5, h6, h7, h8, h9, h10⟩ := h
  have k2 : w.heap.size + 1 + 1 < w.heap.size + 3 := by omega
  refine ⟨((h1.put (p := ⟨_, 0, none⟩) k2 _).put (p := ⟨_, 1, none⟩) k2 _).mono (by omega), ((h2.put (p := ⟨_, 0, none⟩) k2 _).put (p := ⟨_, 1, none⟩) k2 _).mono (by omega), ?_, ?_, ?_⟩
  · (repeat' (first | assumption | (with_reducible exact Below.refl _ _) | (with_reducible refine below_drewN ?_ _) | (with_reducible refine Below.drew ?_) | (with_reducible refine Below.setCell ?_ ?_ _) | (with_reducible refine Below.alloc ?_ ?_ _) | (simp; done) | (simp; omega)))
  · exact ((h6.self 0 _).self 1 _).cell 0 rfl
  · exact ((h6.self 0 _).self 1 _).cell 1 rfl

set_option maxHeartbeats 3200000 in
set_option maxRecDepth 100000 in
theorem free_c {F : Nat → Prop} (gv lv : Value) (gs : List Int) (ls : List Bool) (at_ gen : Int) (w : World) (hlen : gs.length = ls.length) (hll : ls.length ≤ 1100) (hcalm : ∀ x ∈ gs, x < 9223372036854775807) (hF : ∀ b, F b → b < w.heap.size) (hg : SlOf RInt 1 F w gv gs) (hl : SlOf RBool 1 F w lv ls) :
    Calls Try.prog 36 #[.agg #[gv, lv], .agg #[.int .i64 at_, .int .i64 gen]] w (FrPost w (frG gs ls at_ gen) (frL gs ls at_ gen) (frOk gs ls at_ gen)) := by
  have HG : Hid (SlOf RInt 1 F w gv gs) := hg
  have HL : Hid (SlOf RBool 1 F w lv ls) := hl
  have hin : ∀ x ∈ gs, In64 x := by obtain ⟨_, _, _, _, _, h, _⟩ := hg.ints; exact h
  have hl1 : gs.length ≤ 1100 := by omega
  have hl2 : ls.length ≤ 1100 := by omega
  have HN : Hid (gs.length = ls.length) := hlen
  have HC : Hid ((∀ x ∈ gs, x < 9223372036854775807) ∧ ∀ x ∈ gs, In64 x) := ⟨hcalm, hin⟩
  clear hg hl hlen hcalm hin
  go_enter Try.func36, Try.ntmps36
  go_wp2_with fail
  obtain ⟨W0, hW0⟩ : ∃ W0, W0 = (w.alloc (.cells #[gv, lv] 46)).alloc (.cells #[.int .i64 at_, .int .i64 gen] 48) := ⟨_, rfl⟩
  rw [← hW0]
  have s0 : W0.heap.size = w.heap.size + 1 + 1 := by rw [hW0, size_alloc, size_alloc]
  have Z0 : Box (W0.alloc (.cells #[.slice none 0 0, .slice none 0 0] 46)) w.heap.size [gv, lv] := by
    rw [hW0]; exact ((Box.new w [gv, lv] 46).alloc _).alloc _
  have Z1 : Box (W0.alloc (.cells #[.slice none 0 0, .slice none 0 0] 46)) (w.heap.size + 1) [.int .i64 at_, .int .i64 gen] := by
    have := Box.new (w.alloc (.cells #[gv, lv] 46)) [.int .i64 at_, .int .i64 gen] 48
    rw [size_alloc] at this
    rw [hW0]; exact this.alloc _
  have Z2 : Box (W0.alloc (.cells #[.slice none 0 0, .slice none 0 0] 46)) (w.heap.size + 1 + 1) [.slice none 0 0, .slice none 0 0] := by
    have := Box.new W0 [.slice none 0 0, .slice none 0 0] 46
    rw [s0] at this
    exact this
  have B0 : Below w.heap.size w (W0.alloc (.cells #[.slice none 0 0, .slice none 0 0] 46)) := by
    rw [hW0]
    (repeat' (first | assumption | (with_reducible exact Below.refl _ _) | (with_reducible refine below_drewN ?_ _) | (with_reducible refine Below.drew ?_) | (with_reducible refine Below.setCell ?_ ?_ _) | (with_reducible refine Below.alloc ?_ ?_ _) | (simp; done) | (simp; omega)))
  have s1 : (W0.alloc (.cells #[.slice none 0 0, .slice none 0 0] 46)).heap.size = w.heap.size + 3 := by rw [size_alloc, s0]
  generalize W0.alloc (.cells #[.slice none 0 0, .slice none 0 0] 46) = W1 at *
  clear hW0 s0 W0
  refine (copied_c _ _ gs ls W1 hl1 hl2 (fun b hb => Nat.lt_of_lt_of_le (hF b hb) B0.size) (HG.out.same RInt.ok (Same.of_below B0 hF)) (HL.out.same RBool.ok (Same.of_below B0 hF))).mono ?_; rintro e w1 ⟨a, p, b, q, rfl, og, ol, hb1⟩
  have B1 := after B0 B0.size hb1
  have Y0 := Z0.call hb1
  have Y1 := Z1.call hb1
  have Y2 := Z2.call hb1
  have y0 := (Y0.alloc (.cells #[.slice a gs.length p, .slice b ls.length q] 46)).cell 0 rfl
  have y1 := (Y0.alloc (.cells #[.slice a gs.length p, .slice b ls.length q] 46)).cell 1 rfl
  have y2 := (Y1.alloc (.cells #[.slice a gs.length p, .slice b ls.length q] 46)).cell 0 rfl
  have y3 := (Y1.alloc (.cells #[.slice a gs.length p, .slice b ls.length q] 46)).cell 1 rfl
  have hs1 := hb1.size
  rw [s1] at og ol hs1
  clear Z0 Z1 Z2 B0 hb1 s1
  go_wp2_with fail
  have hI0 : FInv w w1.heap.size (.slice a gs.length p) (.slice b ls.length q) gv lv at_ gen gs ls (w1.alloc (.cells #[.slice a gs.length p, .slice b ls.length q] 46)) :=
    ⟨og.alloc _, ol.alloc _, Box.new w1 [.slice a gs.length p, .slice b ls.length q] 46, Y0.alloc _, Y1.alloc _, Y2.alloc _, B1.alloc B1.size _,
      (fun k hk => by have := (World.ownsRow.lt og k hk).2; omega), (fun k hk => by have := (World.ownsRow.lt ol k hk).2; omega), hs1⟩
  clear Y0 Y1 Y2 y0 y1 y2 y3 og ol B1
  generalize w1.alloc (.cells #[.slice a gs.length p, .slice b ls.length q] 46) = W5 at *
  generalize w1.heap.size = n5 at *
  clear w1
  refine (has_c _ _ gs ls at_ gen W5 (HG.out.same RInt.ok (Same.of_below hI0.2.2.2.2.2.2.1 hF)) (HL.out.same RBool.ok (Same.of_below hI0.2.2.2.2.2.2.1 hF)) HN.out).mono ?_; rintro e w2 ⟨rfl, hb2⟩
  have hI := hI0.call hb2
  clear hI0 hb2 W5
  have x0 := hI.2.2.1.cell 0 rfl
  have x1 := hI.2.2.1.cell 1 rfl
  have y0 := hI.2.2.2.1.cell 0 rfl
  have y1 := hI.2.2.2.1.cell 1 rfl
  have y2 := hI.2.2.2.2.1.cell 0 rfl
  have y3 := hI.2.2.2.2.1.cell 1 rfl
  have z0 := hI.2.2.2.2.2.1.cell 0 rfl
  have z1 := hI.2.2.2.2.2.1.cell 1 rfl
  have f0 := hI.2.2.2.2.2.1.frozen 0
  have f1 := hI.2.2.2.2.2.1.frozen 1
  have HI : Hid (FInv _ _ _ _ _ _ _ _ _ _ _) := hI
  obtain ⟨hh, hhe⟩ : ∃ hh, hh = hasB gs ls at_ gen := ⟨_, rfl⟩
  rw [← hhe]
  have HH : Hid (hh = hasB gs ls at_ gen) := hhe
  clear hhe HG HL hF
  by_cases hok : frOk gs ls at_ gen = true
  · have hh1 : hh = true := by rw [HH.out]; unfold frOk at hok; cases h : hasB gs ls at_ gen <;> simp [h] at hok ⊢
    have hat0 : at_ ≠ 0 := by unfold frOk at hok; intro h; rw [h] at hok; simp at hok
    have hh2 : hasB gs ls at_ gen = true := HH.out.symm.trans hh1
    have h00 : 0 ≤ at_ := by
      by_cases h : at_ < 0
      · rw [hasB_lo h] at hh2; cases hh2
      · omega
    obtain ⟨k, rfl⟩ : ∃ k : Nat, at_ = k := ⟨at_.toNat, by omega⟩
    have hkg : k < gs.length := by
      by_cases h : (gs.length : Int) ≤ k
      · rw [hasB_hi h] at hh2; cases hh2
      · omega
    have hkl : k < ls.length := by have := HN.out; omega
    have E2 : Hid (frG gs ls k gen = gs.set k (gs.getD k 0 + 1) ∧ frL gs ls k gen = ls.set k false ∧ frOk gs ls k gen = true) := by
      refine ⟨?_, ?_, hok⟩
      · unfold frG; rw [if_pos hok]; simp
      · unfold frL; rw [if_pos hok]; simp
    have hmem : gs.getD k 0 ∈ gs := by rw [List.getD_eq_getElem?_getD, List.getElem?_eq_getElem hkg]; exact List.getElem_mem hkg
    have hz1 := HC.out.1 _ hmem
    have hz2 := HC.out.2 _ hmem
    unfold In64 at hz2
    subst hh1
    clear hh2 hok hmem HC
    have hoI := hI.1
    have hoB := hI.2.1
    have hap := own_apart2 hoI hoB
    rcases hoB.form with ⟨_, h'⟩ | ⟨xb, cx, hx, hx1, hx2, _, _, _, hxf, hxc⟩
    · rw [h'] at hkl; simp at hkl
    rcases hoI.form with ⟨_, h'⟩ | ⟨yb, cy, hy, hy1, hy2, _, _, _, hyf, hyc⟩
    · rw [h'] at hkg; simp at hkg
    simp only [Value.slice.injEq, true_and] at hx hy
    obtain ⟨rfl, rfl⟩ := hx
    obtain ⟨rfl, rfl⟩ := hy
    have hne : xb ≠ yb := fun e => hap yb rfl (by simp [Value.ownBlock, e])
    have d1 := hxc k hkl
    have d2 := hxf k
    have d3 := hyc k hkg
    have hk0 : (0 : Int) ≤ (k : Int) := by omega
    have hk1 : (k : Int) < (ls.length : Int) := by omega
    have hk2 : (k : Int) < (gs.length : Int) := by omega
    have hn1 := hI.2.2.2.2.2.2.2.1 yb rfl
    have hn2 := hI.2.2.2.2.2.2.2.2.1 xb rfl
    have hJ := hI.markB rfl k false
    have hL := hJ.markI rfl k (gs.getD k 0 + 1)
    have u0 := hJ.2.2.1.cell 0 rfl
    have u1 := hJ.2.2.2.2.1.cell 0 rfl
    have u3 := hJ.2.2.1.cell 1 rfl
    have d4 : (w2.setCell ⟨xb, k, none⟩ (.bool false)).cell? ⟨yb, k, none⟩ = some (.int .i64 (gs.getD k 0)) := by
      rw [World.cell?_of_block (Below.heap_setCell _ _ _ _ (fun e => hne (by simpa using e.symm)))]; exact d3
    have d5 : (w2.setCell ⟨xb, k, none⟩ (.bool false)).frozen? ⟨yb, k, none⟩ = false := by
      rcases hJ.1.form with ⟨h, _⟩ | ⟨g, cap, h, _, _, _, _, _, hf, hc⟩
      · cases h
      · cases h; exact hf _
    have v0 := hL.2.2.1.cell 0 rfl
    have v1 := hL.2.2.1.cell 1 rfl
    have v2 := hL.2.2.2.2.2.1.cell 0 rfl
    have v3 := hL.2.2.2.2.2.1.cell 1 rfl
    have v4 := hL.2.2.2.2.2.1.frozen 0
    have v5 := hL.2.2.2.2.2.1.frozen 1
    obtain ⟨r1, r2, r3, c0, c1⟩ := fr_fin hL _ rfl
    have HR : Hid (OwnI _ _ _ _ ∧ OwnB _ _ _ _ ∧ Below _ _ _ ∧ _ ∧ _) := ⟨r1, r2, r3, c0, c1⟩
    clear r1 r2 r3 c0 c1 hI HI hJ hL hoI hoB hap hxf hxc hyf hyc
    obtain ⟨bt, hbt⟩ : ∃ bt, bt = ls.getD k false := ⟨_, rfl⟩
    obtain ⟨z, hz⟩ : ∃ z, z = gs.getD k 0 := ⟨_, rfl⟩
    rw [← hbt] at d1
    rw [← hz] at d3 d4 v0 v1 v2 v3 v4 v5 HR E2 hz1 hz2
    clear hbt hz
    go_wp2_with fail
    obtain ⟨r1, r2, r3, c0, c1⟩ := HR.out
    refine bodyPost_ret (v := .tuple #[.agg #[.slice (some ⟨yb, 0, none⟩) gs.length p, .slice (some ⟨xb, 0, none⟩) ls.length q], .bool true]) (by simp [results, Try.results36, go_sem, c0, c1]) rfl ?_
    obtain ⟨e1, e2, e3⟩ := E2.out
    rw [e1, e2, e3]
    exact ⟨_, p, _, q, by rw [List.length_set, List.length_set], by rw [List.length_set]; exact r1, by rw [List.length_set]; exact r2, r3⟩
  · have E2 : Hid (frG gs ls at_ gen = gs ∧ frL gs ls at_ gen = ls ∧ frOk gs ls at_ gen = false) := by
      refine ⟨?_, ?_, by simpa using hok⟩
      · unfold frG; rw [if_neg hok]
      · unfold frL; rw [if_neg hok]
    obtain ⟨r1, r2, r3, c0, c1⟩ := fr_fin hI _ rfl
    have HR : Hid (OwnI _ _ _ _ ∧ OwnB _ _ _ _ ∧ Below _ _ _ ∧ _ ∧ _) := ⟨r1, r2, r3, c0, c1⟩
    have hcase : hh = false ∨ (hh = true ∧ at_ = 0) := by
      cases hh
      · exact .inl rfl
      · refine .inr ⟨rfl, ?_⟩
        unfold frOk at hok
        rw [← HH.out] at hok
        simpa using hok
    clear r1 r2 r3 c0 c1 hI HI hok HC
    rcases hcase with rfl | ⟨rfl, rfl⟩
    all_goals
      go_wp2_with fail
      obtain ⟨r1, r2, r3, c0, c1⟩ := HR.out
      refine bodyPost_ret (v := .tuple #[.agg #[.slice a gs.length p, .slice b ls.length q], .bool false]) (by simp [results, Try.results36, go_sem, c0, c1]) rfl ?_
      obtain ⟨e1, e2, e3⟩ := E2.out
      rw [e1, e2, e3]
      exact ⟨_, p, _, q, rfl, r1, r2, r3⟩
end Go.Proofs.Ytlcefgdiclpcjaa
