/- Layer 22: Take. -/
import Derived.Test.YtlcefgdiclpcjaaArF
import Derived.OneCell
import Derived.Deep.AppendLies
import Derived.Deep.RegionHeldLaw
import Derived.Deep.RegionLaw
namespace Go.Proofs.Ytlcefgdiclpcjaa
open Go.RowKit Go.Bx
attribute [local go_sem ↓] Go.wp_at_zero Go.wp_at_succ
set_option linter.unusedVariables false

theorem OwnI.put' {w : World} {B : Nat} {a : Option Addr} {n cap : Nat} {gs : List Int} (h : OwnI w B (.slice a n cap) gs) {p : Addr} (hp : ∀ x, a = some x → x.block ≠ p.block) (u : Value) : OwnI (w.setCell p u) B (.slice a n cap) gs :=
  ownsRow_setCell_other h (by cases a with
    | none => simp [Value.ownBlock]
    | some x => simp [Value.ownBlock]; exact hp x rfl) u
theorem OwnB.put' {w : World} {B : Nat} {a : Option Addr} {n cap : Nat} {gs : List Bool} (h : OwnB w B (.slice a n cap) gs) {p : Addr} (hp : ∀ x, a = some x → x.block ≠ p.block) (u : Value) : OwnB (w.setCell p u) B (.slice a n cap) gs :=
  ownsRow_setCell_other h (by cases a with
    | none => simp [Value.ownBlock]
    | some x => simp [Value.ownBlock]; exact hp x rfl) u
theorem OwnI.stored {w : World} {B g cap : Nat} {gs : List Int} (h : OwnI w B (.slice (some ⟨g, 0, none⟩) gs.length cap) gs) (j : Nat) (x : Int) : OwnI (w.setCell ⟨g, j, none⟩ (.int .i64 x)) B (.slice (some ⟨g, 0, none⟩) gs.length cap) (gs.set j x) := by
  have := (World.ownsRow.stored h j (.int .i64 x)).1
  unfold OwnI
  rw [List.length_set, List.map_set]
  exact this
theorem OwnB.stored {w : World} {B g cap : Nat} {gs : List Bool} (h : OwnB w B (.slice (some ⟨g, 0, none⟩) gs.length cap) gs) (j : Nat) (x : Bool) : OwnB (w.setCell ⟨g, j, none⟩ (.bool x)) B (.slice (some ⟨g, 0, none⟩) gs.length cap) (gs.set j x) := by
  have := (World.ownsRow.stored h j (.bool x)).1
  unfold OwnB
  rw [List.length_set, List.map_set]
  exact this
/-- a row of numbers and a row of truths lie apart -/
theorem own_apart {w : World} {B B' : Nat} {x y : Addr} {n n' c c' : Nat} {gs : List Int} {ls : List Bool} (h : OwnI w B (.slice (some x) n c) gs) (k : OwnB w B' (.slice (some y) n' c') ls) : x.block ≠ y.block := by
  rcases h.form with ⟨h1, _⟩ | ⟨g, cap, h1, _, _, _, _, ⟨cur, hc⟩, _⟩
  · cases h1
  rcases k.form with ⟨k1, _⟩ | ⟨g', cap', k1, _, _, _, _, ⟨cur', hc'⟩, _⟩
  · cases k1
  cases h1
  cases k1
  intro e
  simp only at e
  subst e
  rw [hc] at hc'
  simp at hc'

/-- what Take answers -/
def TkPost (w : World) (gs : List Int) (ls : List Bool) (at_ gen : Int) (ok : Bool) (e : Ending) (w' : World) : Prop := ∃ a p b q, e = .returned (.tuple #[.agg #[.slice a gs.length p, .slice b ls.length q], .agg #[.int .i64 at_, .int .i64 gen], .bool ok]) ∧
  OwnI w' w.heap.size (.slice a gs.length p) gs ∧ OwnB w' w.heap.size (.slice b ls.length q) ls ∧ Below w.heap.size w w'

def tkL (ls : List Bool) : List Bool := if freeAt ls < ls.length then ls.set (freeAt ls) true else if ls.length < 1024 then ls ++ [true] else ls
def tkG (gs : List Int) (ls : List Bool) : List Int := if freeAt ls < ls.length then gs else if ls.length < 1024 then gs ++ [0] else gs
def tkAt (ls : List Bool) : Int := if freeAt ls < 1024 then (freeAt ls : Int) else 0
def tkGen (gs : List Int) (ls : List Bool) : Int := if freeAt ls < 1024 then gs.getD (freeAt ls) 0 else 0
def tkOk (ls : List Bool) : Bool := decide (freeAt ls < 1024)

theorem tk_fin {w W : World} {a b : Option Addr} {p q n m : Nat} {gs : List Int} {ls : List Bool} {at_ gen : Int} (h1 : OwnI W (w.heap.size + 3) (.slice a n p) gs) (h2 : OwnB W (w.heap.size + 3) (.slice b m q) ls)
    (h3 : Box W (w.heap.size + 1) [.slice none 0 0, .slice none 0 0]) (h4 : Box W (w.heap.size + 1 + 1) [.int .i64 0, .int .i64 0]) (h5 : Below w.heap.size w W) (W' : World)
    (hW : W' = (((W.setCell ⟨w.heap.size + 1, 0, none⟩ (.slice a n p)).setCell ⟨w.heap.size + 1, 1, none⟩ (.slice b m q)).setCell ⟨w.heap.size + 1 + 1, 0, none⟩ (.int .i64 at_)).setCell ⟨w.heap.size + 1 + 1, 1, none⟩ (.int .i64 gen)) :
    OwnI W' w.heap.size (.slice a n p) gs ∧ OwnB W' w.heap.size (.slice b m q) ls ∧ Below w.heap.size w W' ∧ W'.cell? ⟨w.heap.size + 1, 0, none⟩ = some (.slice a n p) ∧ W'.cell? ⟨w.heap.size + 1, 1, none⟩ = some (.slice b m q) ∧
      W'.cell? ⟨w.heap.size + 1 + 1, 0, none⟩ = some (.int .i64 at_) ∧ W'.cell? ⟨w.heap.size + 1 + 1, 1, none⟩ = some (.int .i64 gen) := by
  subst hW
  have k1 : w.heap.size + 1 < w.heap.size + 3 := by omega
  have k2 : w.heap.size + 1 + 1 < w.heap.size + 3 := by omega
  refine ⟨((((h1.put (p := ⟨_, 0, none⟩) k1 _).put (p := ⟨_, 1, none⟩) k1 _).put (p := ⟨_, 0, none⟩) k2 _).put (p := ⟨_, 1, none⟩) k2 _).mono (by omega), ((((h2.put (p := ⟨_, 0, none⟩) k1 _).put (p := ⟨_, 1, none⟩) k1 _).put (p := ⟨_, 0, none⟩) k2 _).put (p := ⟨_, 1, none⟩) k2 _).mono (by omega), ?_, ?_, ?_, ?_, ?_⟩
  · (repeat' (first | assumption | (with_reducible exact Below.refl _ _) | (with_reducible refine below_drewN ?_ _) | (with_reducible refine Below.drew ?_) | (with_reducible refine Below.setCell ?_ ?_ _) | (with_reducible refine Below.alloc ?_ ?_ _) | (simp; done) | (simp; omega)))
  · exact ((((h3.self 0 _).self 1 _).set (p := ⟨_, 0, none⟩) (by first | (simp; done) | (simp; omega)) _).set (p := ⟨_, 1, none⟩) (by first | (simp; done) | (simp; omega)) _).cell 0 rfl
  · exact ((((h3.self 0 _).self 1 _).set (p := ⟨_, 0, none⟩) (by first | (simp; done) | (simp; omega)) _).set (p := ⟨_, 1, none⟩) (by first | (simp; done) | (simp; omega)) _).cell 1 rfl
  · exact ((((h4.set (p := ⟨_, 0, none⟩) (by first | (simp; done) | (simp; omega)) _).set (p := ⟨_, 1, none⟩) (by first | (simp; done) | (simp; omega)) _).self 0 _).self 1 _).cell 0 rfl
  · exact ((((h4.set (p := ⟨_, 0, none⟩) (by first | (simp; done) | (simp; omega)) _).set (p := ⟨_, 1, none⟩) (by first | (simp; done) | (simp; omega)) _).self 0 _).self 1 _).cell 1 rfl

/-- what stands in memory while Take works -/
def TInv (w : World) (n5 : Nat) (sA sB sA' sB' : Value) (gs : List Int) (ls : List Bool) (W : World) : Prop :=
  OwnI W (w.heap.size + 3) sA gs ∧ OwnB W (w.heap.size + 3) sB ls ∧ Box W n5 [sA', sB'] ∧ Box W (w.heap.size + 1) [.slice none 0 0, .slice none 0 0] ∧ Box W (w.heap.size + 1 + 1) [.int .i64 0, .int .i64 0] ∧ Below w.heap.size w W ∧
    (∀ k, sA.ownBlock = some k → k ≠ n5) ∧ (∀ k, sB.ownBlock = some k → k ≠ n5) ∧ w.heap.size + 3 ≤ n5
section
variable {w : World} {n5 : Nat} {sA sB sA' sB' : Value} {gs : List Int} {ls : List Bool} {W : World}
theorem TInv.alloc (h : TInv w n5 sA sB sA' sB' gs ls W) (o : Obj) : TInv w n5 sA sB sA' sB' gs ls (W.alloc o) :=
  ⟨h.1.alloc o, h.2.1.alloc o, h.2.2.1.alloc o, h.2.2.2.1.alloc o, h.2.2.2.2.1.alloc o, h.2.2.2.2.2.1.alloc h.2.2.2.2.2.1.size o, h.2.2.2.2.2.2⟩
theorem TInv.drew (h : TInv w n5 sA sB sA' sB' gs ls W) : TInv w n5 sA sB sA' sB' gs ls W.drew := ⟨h.1, h.2.1, h.2.2.1, h.2.2.2.1, h.2.2.2.2.1, h.2.2.2.2.2.1.drew, h.2.2.2.2.2.2⟩
theorem TInv.c0 (h : TInv w n5 sA sB sA' sB' gs ls W) : W.cell? ⟨n5, 0, none⟩ = some sA' := h.2.2.1.cell 0 rfl
theorem TInv.c1 (h : TInv w n5 sA sB sA' sB' gs ls W) : W.cell? ⟨n5, 1, none⟩ = some sB' := h.2.2.1.cell 1 rfl
theorem TInv.f0 (h : TInv w n5 sA sB sA' sB' gs ls W) : W.frozen? ⟨n5, 0, none⟩ = false := h.2.2.1.frozen 0
theorem TInv.f1 (h : TInv w n5 sA sB sA' sB' gs ls W) : W.frozen? ⟨n5, 1, none⟩ = false := h.2.2.1.frozen 1
theorem TInv.stored (h : TInv w n5 sA sB sA' sB' gs ls W) (v0 v1 : Value) : TInv w n5 sA sB v0 v1 gs ls ((W.setCell ⟨n5, 0, none⟩ v0).setCell ⟨n5, 1, none⟩ v1) := by
  obtain ⟨h1, h2, h3, h4, h5, h6, h7, h8, h9⟩ := h
  have e1 : sA.ownBlock ≠ some n5 := fun e => h7 _ e rfl
  have e2 : sB.ownBlock ≠ some n5 := fun e => h8 _ e rfl
  exact ⟨ownsRow_setCell_other (ownsRow_setCell_other h1 (a := ⟨n5, 0, none⟩) e1 v0) (a := ⟨n5, 1, none⟩) e1 v1, ownsRow_setCell_other (ownsRow_setCell_other h2 (a := ⟨n5, 0, none⟩) e2 v0) (a := ⟨n5, 1, none⟩) e2 v1,
    (h3.self 0 v0).self 1 v1, (h4.set (p := ⟨n5, 0, none⟩) (by simp; omega) v0).set (p := ⟨n5, 1, none⟩) (by simp; omega) v1, (h5.set (p := ⟨n5, 0, none⟩) (by simp; omega) v0).set (p := ⟨n5, 1, none⟩) (by simp; omega) v1,
    (h6.setCell (by simp; omega) v0).setCell (by simp; omega) v1, h7, h8, h9⟩
theorem TInv.mark {g cap : Nat} (h : TInv w n5 sA (.slice (some ⟨g, 0, none⟩) ls.length cap) sA' sB' gs ls W) (k : Nat) (x : Bool) : TInv w n5 sA (.slice (some ⟨g, 0, none⟩) ls.length cap) sA' sB' gs (ls.set k x) (W.setCell ⟨g, k, none⟩ (.bool x)) := by
  obtain ⟨h1, h2, h3, h4, h5, h6, h7, h8, h9⟩ := h
  have hg : g ≠ n5 := h8 g rfl
  have hlt := (World.ownsRow.lt h2 g rfl).1
  refine ⟨ownsRow_setCell_other h1 (a := ⟨g, k, none⟩) ?_ _, h2.stored k x, h3.set (p := ⟨g, k, none⟩) (fun e => hg e.symm) _, h4.set (p := ⟨g, k, none⟩) (by simp; omega) _, h5.set (p := ⟨g, k, none⟩) (by simp; omega) _, h6.setCell (by simp; omega) _, h7, h8, h9⟩
  rcases h1.form with ⟨rfl, _⟩ | ⟨g1, cap1, rfl, _⟩
  · simp [Value.ownBlock]
  · have := own_apart h1 h2
    simp only [Value.ownBlock, ne_eq, Option.some.injEq] at this ⊢
    exact this
theorem TInv.ownI (h : TInv w n5 sA sB sA' sB' gs ls W) : W.ownsRow (w.heap.size + 3) 3 1 sA gs.length (gs.map (Value.int .i64)) := h.1
theorem TInv.ownB (h : TInv w n5 sA sB sA' sB' gs ls W) : W.ownsRow (w.heap.size + 3) 4 1 sB ls.length (ls.map Value.bool) := h.2.1
theorem TInv.app1 (h : TInv w n5 sA sB sA' sB' gs ls W) {W' : World} {g cap : Nat} {x : Int} (hg : W.grownBy W' sA.ownBlock) (ho : W'.ownsRow (w.heap.size + 3) 3 1 (.slice (some ⟨g, 0, none⟩) (gs.length + 1) cap) (gs.length + 1) (gs.map (Value.int .i64) ++ [.int .i64 x]))
    (hat : sA.ownBlock = some g ∨ g = W.heap.size) : TInv w n5 (.slice (some ⟨g, 0, none⟩) (gs.length + 1) cap) sB sA' sB' (gs ++ [x]) ls W' := by
  obtain ⟨h1, h2, h3, h4, h5, h6, h7, h8, h9⟩ := h
  have hlt : ∀ k, sA.ownBlock = some k → w.heap.size + 3 ≤ k := fun k hk => (World.ownsRow.lt h1 k hk).1
  refine ⟨?_, ?_, h3.grown' hg (fun hc => h7 _ hc rfl), h4.grown' hg (fun hc => by have := hlt _ hc; omega), h5.grown' hg (fun hc => by have := hlt _ hc; omega), h6.grown hg h6.size (fun k hk => by have := hlt _ hk; omega), ?_, h8, h9⟩
  · show World.ownsRow _ _ _ _ _ _ _
    rw [List.length_append, List.map_append]
    exact ho
  · refine World.ownsRow.kept h2 hg ?_
    rcases h2.form with ⟨rfl, _⟩ | ⟨g2, cap2, rfl, _⟩
    · exact .inl rfl
    · right
      rcases h1.form with ⟨rfl, _⟩ | ⟨g1, cap1, rfl, _⟩
      · simp [Value.ownBlock]
      · have := own_apart h1 h2
        simp only [Value.ownBlock, ne_eq, Option.some.injEq] at this ⊢
        exact fun e => this e.symm
  · intro k hk
    simp [Value.ownBlock] at hk
    subst hk
    rcases hat with hat | hat
    · exact h7 _ hat
    · have := h3.lt; omega
theorem TInv.app2 (h : TInv w n5 sA sB sA' sB' gs ls W) {W' : World} {g cap : Nat} {x : Bool} (hg : W.grownBy W' sB.ownBlock) (ho : W'.ownsRow (w.heap.size + 3) 4 1 (.slice (some ⟨g, 0, none⟩) (ls.length + 1) cap) (ls.length + 1) (ls.map Value.bool ++ [.bool x]))
    (hat : sB.ownBlock = some g ∨ g = W.heap.size) : TInv w n5 sA (.slice (some ⟨g, 0, none⟩) (ls.length + 1) cap) sA' sB' gs (ls ++ [x]) W' := by
  obtain ⟨h1, h2, h3, h4, h5, h6, h7, h8, h9⟩ := h
  have hlt : ∀ k, sB.ownBlock = some k → w.heap.size + 3 ≤ k := fun k hk => (World.ownsRow.lt h2 k hk).1
  refine ⟨?_, ?_, h3.grown' hg (fun hc => h8 _ hc rfl), h4.grown' hg (fun hc => by have := hlt _ hc; omega), h5.grown' hg (fun hc => by have := hlt _ hc; omega), h6.grown hg h6.size (fun k hk => by have := hlt _ hk; omega), h7, ?_, h9⟩
  · refine World.ownsRow.kept h1 hg ?_
    rcases h1.form with ⟨rfl, _⟩ | ⟨g1, cap1, rfl, _⟩
    · exact .inl rfl
    · right
      rcases h2.form with ⟨rfl, _⟩ | ⟨g2, cap2, rfl, _⟩
      · simp [Value.ownBlock]
      · have := own_apart h1 h2
        simp only [Value.ownBlock, ne_eq, Option.some.injEq] at this ⊢
        exact this
  · show World.ownsRow _ _ _ _ _ _ _
    rw [List.length_append, List.map_append]
    exact ho
  · intro k hk
    simp [Value.ownBlock] at hk
    subst hk
    rcases hat with hat | hat
    · exact h8 _ hat
    · have := h3.lt; omega
end
theorem cell_drewL {w : World} {a : Addr} {v : Option Value} (h : w.cell? a = v) : w.drew.cell? a = v := h
theorem set_last {α : Type} (ls : List α) (x y : α) : (ls ++ [x]).set ls.length y = ls ++ [y] := by induction ls <;> simp_all
theorem news_one {W : World} {b : Nat} {x : Value} (h : W.cell? ⟨b, 0, none⟩ = some x) : ∀ j u, [x][j]? = some u → W.cell? ((⟨b, 0, none⟩ : Addr).add j) = some u := by
  intro j u hu
  cases j with
  | zero => simp at hu; subst hu; simpa [Addr.add] using h
  | succ j => simp at hu

set_option maxHeartbeats 3200000 in
set_option maxRecDepth 100000 in
theorem take_c {F : Nat → Prop} (gv lv : Value) (gs : List Int) (ls : List Bool) (w : World) (hlen : gs.length = ls.length) (hll : ls.length ≤ 1024) (hF : ∀ b, F b → b < w.heap.size) (hg : SlOf RInt 1 F w gv gs) (hl : SlOf RBool 1 F w lv ls) :
    Calls Try.prog 34 #[.agg #[gv, lv]] w (TkPost w (tkG gs ls) (tkL ls) (tkAt ls) (tkGen gs ls) (tkOk ls)) := by
  have HG : Hid (SlOf RInt 1 F w gv gs) := hg
  have HL : Hid (SlOf RBool 1 F w lv ls) := hl
  have hl1 : gs.length ≤ 1100 := by omega
  have hl2 : ls.length ≤ 1100 := by omega
  have HN : Hid (gs.length = ls.length) := hlen
  clear hg hl hlen
  go_enter Try.func34, Try.ntmps34
  go_wp2_with fail
  obtain ⟨W0, hW0⟩ : ∃ W0, W0 = (w.alloc (.cells #[gv, lv] 46)).alloc (.cells #[.slice none 0 0, .slice none 0 0] 46) := ⟨_, rfl⟩
  rw [← hW0]
  have s0 : W0.heap.size = w.heap.size + 2 := by rw [hW0, size_alloc, size_alloc]
  have Z1 : Box (W0.alloc (.cells #[.int .i64 0, .int .i64 0] 48)) (w.heap.size + 1) [.slice none 0 0, .slice none 0 0] := by
    have := Box.new (w.alloc (.cells #[gv, lv] 46)) [.slice none 0 0, .slice none 0 0] 46
    rw [size_alloc] at this
    rw [hW0]; exact this.alloc _
  have Z2 : Box (W0.alloc (.cells #[.int .i64 0, .int .i64 0] 48)) (w.heap.size + 1 + 1) [.int .i64 0, .int .i64 0] := by
    have := Box.new W0 [.int .i64 0, .int .i64 0] 48
    rw [s0] at this
    exact this
  have B0 : Below w.heap.size w (W0.alloc (.cells #[.int .i64 0, .int .i64 0] 48)) := by
    rw [hW0]
    exact (by repeat' (first | assumption | (with_reducible exact Below.refl _ _) | (with_reducible refine below_drewN ?_ _) | (with_reducible refine Below.drew ?_) | (with_reducible refine Below.setCell ?_ ?_ _) | (with_reducible refine Below.alloc ?_ ?_ _) | (simp; done) | (simp; omega)))
  have s1 : (W0.alloc (.cells #[.int .i64 0, .int .i64 0] 48)).heap.size = w.heap.size + 3 := by rw [size_alloc, s0]
  generalize W0.alloc (.cells #[.int .i64 0, .int .i64 0] 48) = W1 at *
  clear hW0 s0 W0
  refine (copied_c _ _ gs ls W1 hl1 hl2 (fun b hb => Nat.lt_of_lt_of_le (hF b hb) B0.size) (HG.out.same RInt.ok (Same.of_below B0 hF)) (HL.out.same RBool.ok (Same.of_below B0 hF))).mono ?_; rintro e w1 ⟨a, p, b, q, rfl, og, ol, hb1⟩
  have B1 := after B0 B0.size hb1
  have Y1 := Z1.call hb1
  have Y2 := Z2.call hb1
  have hs1 := hb1.size
  rw [s1] at og ol hs1
  clear Z1 Z2 B0 hb1 s1 HG HL
  go_wp2_with fail
  have X5 := Box.new w1 [.slice a gs.length p, .slice b ls.length q] 46
  have hs5 : (w1.alloc (.cells #[.slice a gs.length p, .slice b ls.length q] 46)).heap.size = w1.heap.size + 1 := size_alloc _ _
  have Y3 := Y1.alloc (.cells #[.slice a gs.length p, .slice b ls.length q] 46)
  have Y4 := Y2.alloc (.cells #[.slice a gs.length p, .slice b ls.length q] 46)
  have og5 := og.alloc (.cells #[.slice a gs.length p, .slice b ls.length q] 46)
  have ol5 := ol.alloc (.cells #[.slice a gs.length p, .slice b ls.length q] 46)
  have B5 := B1.alloc B1.size (.cells #[.slice a gs.length p, .slice b ls.length q] 46)
  have hag : ∀ x, a = some x → w.heap.size + 3 ≤ x.block ∧ x.block < w1.heap.size := fun x hx => World.ownsRow.lt og x.block (by rw [hx]; rfl)
  have hal : ∀ x, b = some x → w.heap.size + 3 ≤ x.block ∧ x.block < w1.heap.size := fun x hx => World.ownsRow.lt ol x.block (by rw [hx]; rfl)
  clear Y1 Y2 og ol B1
  generalize w1.alloc (.cells #[.slice a gs.length p, .slice b ls.length q] 46) = W5 at *
  generalize w1.heap.size = n5 at *
  clear w1
  refine (index_c _ ls _ ol5.sl).mono ?_; rintro e w2 ⟨rfl, rfl⟩
  have x0 := X5.cell 0 rfl
  have x1 := X5.cell 1 rfl
  have y0 := Y3.cell 0 rfl
  have y1 := Y3.cell 1 rfl
  have y2 := Y4.cell 0 rfl
  have y3 := Y4.cell 1 rfl
  have f0 := Y3.frozen 0
  have f1 := Y3.frozen 1
  have f2 := Y4.frozen 0
  have f3 := Y4.frozen 1
  have H5 : Hid (OwnI W5 (w.heap.size + 3) (.slice a gs.length p) gs ∧ OwnB W5 (w.heap.size + 3) (.slice b ls.length q) ls ∧ Box W5 n5 [.slice a gs.length p, .slice b ls.length q] ∧ Box W5 (w.heap.size + 1) [.slice none 0 0, .slice none 0 0] ∧ Box W5 (w.heap.size + 1 + 1) [.int .i64 0, .int .i64 0] ∧ Below w.heap.size w W5) := ⟨og5, ol5, X5, Y3, Y4, B5⟩
  by_cases hfr : freeAt ls < ls.length
  · have e1 : idxV ls = (freeAt ls : Int) := by unfold idxV; rw [if_pos hfr]
    have E2 : Hid (tkL ls = ls.set (freeAt ls) true ∧ tkG gs ls = gs ∧ tkAt ls = freeAt ls ∧ tkGen gs ls = gs.getD (freeAt ls) 0 ∧ tkOk ls = true) := by
      refine ⟨?_, ?_, ?_, ?_, ?_⟩
      · unfold tkL; rw [if_pos hfr]
      · unfold tkG; rw [if_pos hfr]
      · unfold tkAt; rw [if_pos (by omega)]
      · unfold tkGen; rw [if_pos (by omega)]
      · unfold tkOk; exact decide_eq_true (by omega)
    rw [e1]
    generalize freeAt ls = k at *
    obtain ⟨x, hx, gg, hfg, hcg⟩ : ∃ x : Addr, b = some x ∧ x = ⟨x.block, 0, none⟩ ∧ (∀ j, W5.frozen? ⟨x.block, j, none⟩ = false) ∧ ∀ j, j < ls.length → W5.cell? ⟨x.block, j, none⟩ = some (.bool (ls.getD j false)) := by
      rcases ol5.form with ⟨h, h'⟩ | ⟨g, cap, h, _, _, _, _, _, hf, hc⟩
      · rw [h'] at hfr; simp at hfr
      · cases h; exact ⟨_, rfl, rfl, hf, hc⟩
    obtain ⟨y, hy, gy, hcy⟩ : ∃ x : Addr, a = some x ∧ x = ⟨x.block, 0, none⟩ ∧ ∀ j, j < gs.length → W5.cell? ⟨x.block, j, none⟩ = some (.int .i64 (gs.getD j 0)) := by
      rcases og5.form with ⟨h, h'⟩ | ⟨g, cap, h, _, _, _, _, _, hf, hc⟩
      · rw [← HN.out, h'] at hfr; simp at hfr
      · cases h; exact ⟨_, rfl, rfl, hc⟩
    obtain ⟨xb, xo, xs⟩ := x
    obtain ⟨yb, yo, ys⟩ := y
    simp only [Addr.mk.injEq, true_and] at gg gy
    obtain ⟨rfl, rfl⟩ := gg
    obtain ⟨rfl, rfl⟩ := gy
    subst hx hy
    have hap := own_apart og5 ol5
    obtain ⟨hx1, hx2⟩ := hal _ rfl
    obtain ⟨hy1, hy2⟩ := hag _ rfl
    simp only at hap hx1 hx2 hy1 hy2
    have hkg : k < gs.length := by rw [HN.out]; exact hfr
    have d1 := hcg k hfr
    have d2 := hfg k
    have d3 := hcy k hkg
    have hk0 : (0 : Int) ≤ (k : Int) := by omega
    have hk1 : (k : Int) < (ls.length : Int) := by omega
    have hk2 : (k : Int) < (gs.length : Int) := by omega
    simp only at d1 d2 d3
    clear hcg hfg hcy e1
    obtain ⟨W6, hW6⟩ : ∃ W6, W6 = W5.setCell ⟨xb, k, none⟩ (.bool true) := ⟨_, rfl⟩
    have og6 : OwnI W6 (w.heap.size + 3) (.slice (some ⟨yb, 0, none⟩) gs.length p) gs := by rw [hW6]; exact og5.put' (fun x hx => by cases hx; exact fun h => hap h) _
    have ol6 : OwnB W6 (w.heap.size + 3) (.slice (some ⟨xb, 0, none⟩) ls.length q) (ls.set k true) := by rw [hW6]; exact ol5.stored k true
    have X6 : Box W6 n5 [.slice (some ⟨yb, 0, none⟩) gs.length p, .slice (some ⟨xb, 0, none⟩) ls.length q] := by rw [hW6]; exact X5.set (by simp; omega) _
    have Z3 : Box W6 (w.heap.size + 1) [.slice none 0 0, .slice none 0 0] := by rw [hW6]; exact Y3.set (by simp; omega) _
    have Z4 : Box W6 (w.heap.size + 1 + 1) [.int .i64 0, .int .i64 0] := by rw [hW6]; exact Y4.set (by simp; omega) _
    have B6 : Below w.heap.size w W6 := by rw [hW6]; exact B5.setCell (by simp; omega) _
    have t1 := X6.cell 0 rfl
    have t2 := X6.cell 1 rfl
    have t3 := Z3.cell 0 rfl
    have t4 := Z3.cell 1 rfl
    have t5 := Z4.cell 0 rfl
    have t6 := Z4.cell 1 rfl
    have t7 := Z3.frozen 0
    have t8 := Z3.frozen 1
    have t9 := Z4.frozen 0
    have t10 := Z4.frozen 1
    have d6 : W6.cell? ⟨yb, k, none⟩ = some (.int .i64 (gs.getD k 0)) := by
      rw [hW6, World.cell?_of_block (Below.heap_setCell _ _ _ _ (fun e => hap (by simpa using e)))]; exact d3
    rw [hW6] at t1 t2 t3 t4 t5 t6 t7 t8 t9 t10 d6
    have H6 : Hid (OwnI W6 (w.heap.size + 3) (.slice (some ⟨yb, 0, none⟩) gs.length p) gs ∧ OwnB W6 (w.heap.size + 3) (.slice (some ⟨xb, 0, none⟩) ls.length q) (ls.set k true) ∧ Box W6 (w.heap.size + 1) [.slice none 0 0, .slice none 0 0] ∧ Box W6 (w.heap.size + 1 + 1) [.int .i64 0, .int .i64 0] ∧ Below w.heap.size w W6) := ⟨og6, ol6, Z3, Z4, B6⟩
    have HW : Hid (W6 = W5.setCell ⟨xb, k, none⟩ (.bool true)) := hW6
    clear og5 ol5 X5 Y3 Y4 B5 og6 ol6 X6 Z3 Z4 B6 hW6 hag hal H5 hF hap
    generalize gs.getD k 0 = z at *
    go_wp2_with fail
    rw [← HW.out] at t1 t2 t3 t4 t5 t6 t7 t8 t9 t10 d6 ⊢
    clear x0 x1 y0 y1 y2 y3 f0 f1 f2 f3 d1 d2 d3 HW hs5
    clear W5
    obtain ⟨k1, k2, k3, k4, k5⟩ := H6.out
    obtain ⟨r1, r2, r3, c0, c1, c2, c3⟩ := tk_fin (at_ := (k : Int)) (gen := z) k1 k2 k3 k4 k5 _ rfl
    have HR : Hid (OwnI _ _ _ _ ∧ OwnB _ _ _ _ ∧ Below _ _ _ ∧ _ ∧ _ ∧ _ ∧ _) := ⟨r1, r2, r3, c0, c1, c2, c3⟩
    clear H6 k1 k2 k3 k4 k5 r1 r2 r3 c0 c1 c2 c3
    go_region
    all_goals
      obtain ⟨r1, r2, r3, c0, c1, c2, c3⟩ := HR.out
      go_wp2_with fail
      refine bodyPost_ret (v := .tuple #[.agg #[.slice (some ⟨yb, 0, none⟩) gs.length p, .slice (some ⟨xb, 0, none⟩) ls.length q], .agg #[.int .i64 k, .int .i64 z], .bool true]) (by simp [results, Try.results34, go_sem, c0, c1, c2, c3]) rfl ?_
      obtain ⟨e1, e2, e3, e4, e5⟩ := E2.out
      rw [e1, e2, e3, e4, e5]
      exact ⟨_, p, _, q, by rw [List.length_set], r1, by rw [List.length_set]; exact r2, by first | exact r3 | exact r3.drew⟩
  · have hfl := freeAt_le ls
    have hfe : freeAt ls = ls.length := by omega
    have e1 : idxV ls = -1 := by unfold idxV; rw [if_neg hfr]
    rw [e1]
    clear e1
    by_cases hlt : ls.length < 1024
    · have E2 : Hid (tkL ls = ls ++ [true] ∧ tkG gs ls = gs ++ [0] ∧ tkAt ls = ls.length ∧ tkGen gs ls = 0 ∧ tkOk ls = true) := by
        refine ⟨?_, ?_, ?_, ?_, ?_⟩
        · unfold tkL; rw [if_neg hfr, if_pos hlt]
        · unfold tkG; rw [if_neg hfr, if_pos hlt]
        · unfold tkAt; rw [if_pos (by omega), hfe]
        · unfold tkGen; rw [if_pos (by omega), hfe, ← HN.out]; simp
        · unfold tkOk; exact decide_eq_true (by omega)
      have hl3 : ¬ (1024 : Int) ≤ (ls.length : Int) := by omega
      have I0 : TInv w n5 (.slice a gs.length p) (.slice b ls.length q) (.slice a gs.length p) (.slice b ls.length q) gs ls W5 := ⟨og5, ol5, X5, Y3, Y4, B5,
        (fun k hk => by cases a with
          | none => simp [Value.ownBlock] at hk
          | some x => simp [Value.ownBlock] at hk; have := hag x rfl; omega),
        (fun k hk => by cases b with
          | none => simp [Value.ownBlock] at hk
          | some x => simp [Value.ownBlock] at hk; have := hal x rfl; omega), hs1⟩
      have hoa : ∀ k, (Value.slice a gs.length p).ownBlock = some k → k < n5 := fun k hk => by
        cases a with
        | none => simp [Value.ownBlock] at hk
        | some x => simp [Value.ownBlock] at hk; have := hag x rfl; omega
      have HO : Hid (∀ k, (Value.slice a gs.length p).ownBlock = some k → k < n5) := hoa
      have hs6 : n5 < W5.heap.size := by omega
      have HN1 : Hid (some W5.heap.size ≠ (Value.slice a gs.length p).ownBlock) := fun e => by have := hoa _ e.symm; omega
      have HN2 : Hid (some (W5.heap.size + 1) ≠ (Value.slice a gs.length p).ownBlock) := fun e => by have := hoa _ e.symm; omega
      clear og5 ol5 X5 Y3 Y4 B5 hag hal H5 hfr hfe hfl hF hoa hs5
      obtain ⟨i3, hi3, hz0, hz1, hz2⟩ := info_parts infoI
      obtain ⟨i4, hi4, hy0, hy1, hy2⟩ := info_parts infoB
      have HI : Hid (TInv _ _ _ _ _ _ _ _ _) := I0
      have hb5 : w.heap.size + 3 ≤ W5.heap.size := by omega
      have hg5 : (gs.length + 1) * 8 ≤ 140737488355328 ∧ gs.length + 1 ≤ maxLen := by unfold maxLen; omega
      have hg6 : (ls.length + 1) * 1 ≤ 140737488355328 ∧ ls.length + 1 ≤ maxLen := by unfold maxLen; omega
      go_wp2_with fail
      rename_i K hK hj
      have hend : Hid (∀ (g1 c1 g2 c2 : Nat) (u25 u29 : Value) (W : World), TInv w n5 (.slice (some ⟨g1, 0, none⟩) (gs.length + 1) c1) (.slice (some ⟨g2, 0, none⟩) (ls.length + 1) c2) (.slice (some ⟨g1, 0, none⟩) (gs.length + 1) c1) (.slice (some ⟨g2, 0, none⟩) (ls.length + 1) c2) (gs ++ [0]) (ls ++ [false]) W →
          K { tmps := #[.agg #[gv, lv], .pointer (some ⟨w.heap.size, 0, none⟩), .pointer (some ⟨w.heap.size + 1, 0, none⟩), .pointer (some ⟨w.heap.size + 1 + 1, 0, none⟩), .bool false, .pointer (some ⟨n5, 0, none⟩), .int .i64 ls.length, .agg #[gv, lv],
            .agg #[.slice a gs.length p, .slice b ls.length q], .pointer (some ⟨n5, 1, none⟩), .slice b ls.length q, .int .i64 (-1), .int .i64 (-1), .bool true, .pointer (some ⟨n5, 1, none⟩), .slice b ls.length q, .int .i64 ls.length, .bool (decide ((1024 : Int) ≤ (ls.length : Int))), undef, undef,
            .pointer (some ⟨n5, 1, none⟩), .slice b ls.length q, .int .i64 ls.length, .pointer (some ⟨n5, 0, none⟩), .slice a gs.length p, u25, .slice (some ⟨g1, 0, none⟩) (gs.length + 1) c1, .pointer (some ⟨n5, 1, none⟩), .slice b ls.length q, u29,
            .slice (some ⟨g2, 0, none⟩) (ls.length + 1) c2, .pointer (some ⟨n5, 0, none⟩), .pointer (some ⟨n5, 1, none⟩), undef, undef, undef, undef, undef, undef, undef, undef, undef, undef, undef, undef], defers := [] } W) := by
        intro g1 c1 g2 c2 u25 u29 W hI
        clear I0 HI x0 x1 y0 y1 y2 y3 f0 f1 f2 f3 HO hs6 HN1 HN2 i3 i4 hi3 hz0 hz1 hz2 hi4 hy0 hy1 hy2 hb5 hg5 hg6
        refine hK _ _ ?_
        clear hK
        have x0 := hI.c0
        have x1 := hI.c1
        have hlen2 : (ls ++ [false]).length = ls.length + 1 := by simp
        have hlen1 : (gs ++ [(0 : Int)]).length = gs.length + 1 := by simp
        have hI' : TInv w n5 (.slice (some ⟨g1, 0, none⟩) (gs ++ [(0 : Int)]).length c1) (.slice (some ⟨g2, 0, none⟩) (ls ++ [false]).length c2) (.slice (some ⟨g1, 0, none⟩) (gs.length + 1) c1) (.slice (some ⟨g2, 0, none⟩) (ls.length + 1) c2) (gs ++ [0]) (ls ++ [false]) W := by
          rw [hlen1, hlen2]; exact hI
        have d1 : W.cell? ⟨g2, ls.length, none⟩ = some (.bool false) := by
          rcases hI'.2.1.form with ⟨h, _⟩ | ⟨g, cap, h, _, _, _, _, _, hf, hc⟩
          · cases h
          · cases h
            rw [hc ls.length (by omega)]; simp
        have d2 : W.frozen? ⟨g2, ls.length, none⟩ = false := by
          rcases hI'.2.1.form with ⟨h, _⟩ | ⟨g, cap, h, _, _, _, _, _, hf, hc⟩
          · cases h
          · cases h
            exact hf _
        have hM := hI'.mark ls.length true
        have d3 : (W.setCell ⟨g2, ls.length, none⟩ (.bool true)).cell? ⟨g1, ls.length, none⟩ = some (.int .i64 0) := by
          rcases hM.1.form with ⟨h, _⟩ | ⟨g, cap, h, _, _, _, _, _, hf, hc⟩
          · cases h
          · cases h
            rw [hc ls.length (by rw [hlen1, HN.out]; omega), ← HN.out]; simp
        have t1 := hM.c0
        have t2 := hM.c1
        have Z3 := hM.2.2.2.1
        have Z4 := hM.2.2.2.2.1
        have t3 := Z3.cell 0 rfl
        have t4 := Z3.cell 1 rfl
        have t5 := Z4.cell 0 rfl
        have t6 := Z4.cell 1 rfl
        have t7 := Z3.frozen 0
        have t8 := Z3.frozen 1
        have t9 := Z4.frozen 0
        have t10 := Z4.frozen 1
        have hset : (ls ++ [false]).set ls.length true = ls ++ [true] := set_last ls false true
        rw [hset, hlen1, hlen2] at hM
        obtain ⟨r1, r2, r3, c00, c01, c02, c03⟩ := tk_fin (at_ := (ls.length : Int)) (gen := 0) hM.1 hM.2.1 Z3 Z4 hM.2.2.2.2.2.1 _ rfl
        have HR : Hid (OwnI _ _ _ _ ∧ OwnB _ _ _ _ ∧ Below _ _ _ ∧ _ ∧ _ ∧ _ ∧ _) := ⟨r1, r2, r3, c00, c01, c02, c03⟩
        have hk0 : (0 : Int) ≤ (ls.length : Int) := by omega
        have hk1 : (ls.length : Int) < (ls.length : Int) + 1 := by omega
        have hk2 : (ls.length : Int) < (gs.length : Int) + 1 := by have := HN.out; omega
        have hg1 := (World.ownsRow.lt hI.1 g1 rfl).1
        have hg2 := (World.ownsRow.lt hI.2.1 g2 rfl).1
        clear r1 r2 r3 c00 c01 c02 c03 hM hI hI' Z3 Z4 hset hlen1 hlen2
        obtain ⟨W6, hW6⟩ : ∃ W6, W6 = W.setCell ⟨g2, ls.length, none⟩ (.bool true) := ⟨_, rfl⟩
        have HW : Hid (W6 = W.setCell ⟨g2, ls.length, none⟩ (.bool true)) := hW6
        clear hW6
        go_wp2_with fail
        rw [← HW.out] at t1 t2 t3 t4 t5 t6 t7 t8 t9 t10 d3 HR ⊢
        clear x0 x1 d1 d2 HW
        clear W
        go_region
        all_goals
          obtain ⟨r1, r2, r3, c00, c01, c02, c03⟩ := HR.out
          go_wp2_with fail
          refine bodyPost_ret (v := .tuple #[.agg #[.slice (some ⟨g1, 0, none⟩) (gs.length + 1) c1, .slice (some ⟨g2, 0, none⟩) (ls.length + 1) c2], .agg #[.int .i64 ls.length, .int .i64 0], .bool true]) (by simp [results, Try.results34, go_sem, c00, c01, c02, c03]) rfl ?_
          obtain ⟨e1, e2, e3, e4, e5⟩ := E2.out
          rw [e1, e2, e3, e4, e5]
          refine ⟨some ⟨g1, 0, none⟩, c1, some ⟨g2, 0, none⟩, c2, by rw [show (gs ++ [(0 : Int)]).length = gs.length + 1 from by simp, show (ls ++ [true]).length = ls.length + 1 from by simp], ?_, ?_, by first | exact r3 | exact r3.drew⟩
          · rw [show (gs ++ [(0 : Int)]).length = gs.length + 1 from by simp]; exact r1
          · rw [show (ls ++ [true]).length = ls.length + 1 from by simp]; exact r2
      clear y0 y1 y2 y3 f0 f1 f2 f3 hK HI
      go_region_law
        (first
          | (refine step_append_lies _ rfl _ _ 41 rfl (w.heap.size + 3) 3 i3 (.int .i64 0) 1 8 Try.underlying41 hi3 hz0 hz1 hz2 rfl (by decide) (.slice a gs.length p) gs.length _ rfl (TInv.ownI (w := w) (n5 := n5) (sA := .slice a gs.length p) (sB := .slice b ls.length q) (sA' := .slice a gs.length p) (sB' := .slice b ls.length q) (gs := gs) (ls := ls) (by repeat' (first | assumption | (with_reducible refine TInv.alloc ?_ _) | (with_reducible refine TInv.drew ?_)))) _ 1 1 [.int .i64 0] rfl rfl (news_one (by first | assumption | (simp; done))) (by simp [Value.oneCell']) (by decide) hg5.2 hg5.1 (by first | assumption | (simp; done) | (simp; omega)) _ rfl ?_; intro g1 c1' w7 hown7 hgrow7 hat7 hlt7; have I1 := TInv.app1 (w := w) (n5 := n5) (sA := .slice a gs.length p) (sB := .slice b ls.length q) (sA' := .slice a gs.length p) (sB' := .slice b ls.length q) (gs := gs) (ls := ls) (by repeat' (first | assumption | (with_reducible refine TInv.alloc ?_ _) | (with_reducible refine TInv.drew ?_))) hgrow7 hown7 hat7; have k0 := I1.c0; have k1 := I1.c1; have hn7 : n5 < w7.heap.size := I1.2.2.1.lt; have hsz7 : w.heap.size + 3 ≤ w7.heap.size := (by have h9 := I1.2.2.2.2.2.2.2.2; have h3 := I1.2.2.1.lt; omega); have q1 := fun h => hgrow7.cell (a := ⟨W5.heap.size, 0, none⟩) (v := .bool false) h HN1.out; have q2 := fun h => hgrow7.cell (a := ⟨W5.heap.size + 1, 0, none⟩) (v := .bool false) h HN2.out; clear hown7 hgrow7 hat7)
          | (refine step_append_lies _ rfl _ _ 44 rfl (w.heap.size + 3) 4 i4 (.bool false) 1 1 Try.underlying44 hi4 hy0 hy1 hy2 rfl (by decide) (.slice b ls.length q) ls.length _ rfl (TInv.ownB (w := w) (n5 := n5) (sA := .slice (some ⟨g1, 0, none⟩) (gs.length + 1) c1') (sB := .slice b ls.length q) (sA' := .slice a gs.length p) (sB' := .slice b ls.length q) (gs := gs ++ [0]) (ls := ls) (by repeat' (first | assumption | (with_reducible refine TInv.alloc ?_ _) | (with_reducible refine TInv.drew ?_)))) _ 1 1 [.bool false] rfl rfl (news_one (by first | assumption | (simp; done) | exact q1 (by first | (simp; done)) | exact q2 (by first | (simp; done)))) (by simp [Value.oneCell']) (by decide) hg6.2 hg6.1 (by first | assumption | (simp; done) | (simp; omega)) _ rfl ?_; intro g2 c2' w8 hown8 hgrow8 hat8 hlt8; have I2 := TInv.app2 (w := w) (n5 := n5) (sA := .slice (some ⟨g1, 0, none⟩) (gs.length + 1) c1') (sB := .slice b ls.length q) (sA' := .slice a gs.length p) (sB' := .slice b ls.length q) (gs := gs ++ [0]) (ls := ls) (by repeat' (first | assumption | (with_reducible refine TInv.alloc ?_ _) | (with_reducible refine TInv.drew ?_))) hgrow8 hown8 hat8; have hn8 : n5 < w8.heap.size := I2.2.2.1.lt; have m0 := I2.c0; have m1 := I2.c1; have m2 := I2.f0; have m3 := I2.f1; clear hown8 hgrow8 hat8))
      all_goals exact hend.out _ _ _ _ _ _ _ (I2.stored _ _)
    · have E2 : Hid (tkL ls = ls ∧ tkG gs ls = gs ∧ tkAt ls = 0 ∧ tkGen gs ls = 0 ∧ tkOk ls = false) := by
        refine ⟨?_, ?_, ?_, ?_, ?_⟩
        · unfold tkL; rw [if_neg hfr, if_neg hlt]
        · unfold tkG; rw [if_neg hfr, if_neg hlt]
        · unfold tkAt; rw [if_neg (by omega)]
        · unfold tkGen; rw [if_neg (by omega)]
        · unfold tkOk; exact decide_eq_false (by omega)
      have hl3 : (1024 : Int) ≤ (ls.length : Int) := by omega
      obtain ⟨r1, r2, r3, c0, c1, c2, c3⟩ := tk_fin (at_ := 0) (gen := 0) og5 ol5 Y3 Y4 B5 _ rfl
      have HR : Hid (OwnI _ _ _ _ ∧ OwnB _ _ _ _ ∧ Below _ _ _ ∧ _ ∧ _ ∧ _ ∧ _) := ⟨r1, r2, r3, c0, c1, c2, c3⟩
      clear r1 r2 r3 c0 c1 c2 c3 og5 ol5 X5 Y3 Y4 B5 hag hal H5 hfr hfe hfl hlt hll hF
      go_wp2_with fail
      obtain ⟨r1, r2, r3, c0, c1, c2, c3⟩ := HR.out
      refine bodyPost_ret (v := .tuple #[.agg #[.slice a gs.length p, .slice b ls.length q], .agg #[.int .i64 0, .int .i64 0], .bool false]) (by simp [results, Try.results34, go_sem, c0, c1, c2, c3]) rfl ?_
      obtain ⟨e1, e2, e3, e4, e5⟩ := E2.out
      rw [e1, e2, e3, e4, e5]
      exact ⟨_, p, _, q, rfl, r1, r2, r3⟩
end Go.Proofs.Ytlcefgdiclpcjaa
