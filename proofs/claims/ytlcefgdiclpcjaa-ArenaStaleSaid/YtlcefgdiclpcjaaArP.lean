/- Layer 22, the document's answer: 'with'. -/
import Derived.Test.YtlcefgdiclpcjaaArG
import Derived.Test.YtlcefgdiclpcjaaArB
namespace Go.Proofs.Ytlcefgdiclpcjaa
open Go.RowKit Go.Bx
attribute [local go_sem ↓] Go.wp_at_zero Go.wp_at_succ
set_option linter.unusedVariables false

/-- what stands in memory while 'with' works -/
def WI (w : World) (gv lv sA sB sA' sB' : Value) (gs : List Int) (ls : List Bool) (W : World) : Prop :=
  OwnI W (w.heap.size + 3) sA gs ∧ OwnB W (w.heap.size + 3) sB ls ∧ Box W (w.heap.size + 1 + 1) [sA', sB'] ∧ Box W w.heap.size [gv, lv] ∧ Box W (w.heap.size + 1) [.slice none 0 0, .slice none 0 0] ∧ Below w.heap.size w W
section
variable {w : World} {gv lv sA sB sA' sB' : Value} {gs : List Int} {ls : List Bool} {W : World}
theorem WI.alloc (h : WI w gv lv sA sB sA' sB' gs ls W) (o : Obj) : WI w gv lv sA sB sA' sB' gs ls (W.alloc o) :=
  ⟨h.1.alloc o, h.2.1.alloc o, h.2.2.1.alloc o, h.2.2.2.1.alloc o, h.2.2.2.2.1.alloc o, h.2.2.2.2.2.alloc h.2.2.2.2.2.size o⟩
theorem WI.drew (h : WI w gv lv sA sB sA' sB' gs ls W) : WI w gv lv sA sB sA' sB' gs ls W.drew := ⟨h.1, h.2.1, h.2.2.1, h.2.2.2.1, h.2.2.2.2.1, h.2.2.2.2.2.drew⟩
theorem WI.c0 (h : WI w gv lv sA sB sA' sB' gs ls W) : W.cell? ⟨w.heap.size + 1 + 1, 0, none⟩ = some sA' := h.2.2.1.cell 0 rfl
theorem WI.c1 (h : WI w gv lv sA sB sA' sB' gs ls W) : W.cell? ⟨w.heap.size + 1 + 1, 1, none⟩ = some sB' := h.2.2.1.cell 1 rfl
theorem WI.f0 (h : WI w gv lv sA sB sA' sB' gs ls W) : W.frozen? ⟨w.heap.size + 1 + 1, 0, none⟩ = false := h.2.2.1.frozen 0
theorem WI.f1 (h : WI w gv lv sA sB sA' sB' gs ls W) : W.frozen? ⟨w.heap.size + 1 + 1, 1, none⟩ = false := h.2.2.1.frozen 1
theorem WI.a0 (h : WI w gv lv sA sB sA' sB' gs ls W) : W.cell? ⟨w.heap.size, 0, none⟩ = some gv := h.2.2.2.1.cell 0 rfl
theorem WI.a1 (h : WI w gv lv sA sB sA' sB' gs ls W) : W.cell? ⟨w.heap.size, 1, none⟩ = some lv := h.2.2.2.1.cell 1 rfl
theorem WI.store0 (h : WI w gv lv sA sB sA' sB' gs ls W) (v : Value) : WI w gv lv sA sB v sB' gs ls (W.setCell ⟨w.heap.size + 1 + 1, 0, none⟩ v) :=
  ⟨h.1.put (p := ⟨w.heap.size + 1 + 1, 0, none⟩) (by simp only; omega) v, h.2.1.put (p := ⟨w.heap.size + 1 + 1, 0, none⟩) (by simp only; omega) v, h.2.2.1.self 0 v, h.2.2.2.1.set (p := ⟨w.heap.size + 1 + 1, 0, none⟩) (by simp only; omega) v, h.2.2.2.2.1.set (p := ⟨w.heap.size + 1 + 1, 0, none⟩) (by simp only; omega) v, h.2.2.2.2.2.setCell (p := ⟨w.heap.size + 1 + 1, 0, none⟩) (by simp only; omega) v⟩
theorem WI.store1 (h : WI w gv lv sA sB sA' sB' gs ls W) (v : Value) : WI w gv lv sA sB sA' v gs ls (W.setCell ⟨w.heap.size + 1 + 1, 1, none⟩ v) :=
  ⟨h.1.put (p := ⟨w.heap.size + 1 + 1, 1, none⟩) (by simp only; omega) v, h.2.1.put (p := ⟨w.heap.size + 1 + 1, 1, none⟩) (by simp only; omega) v, h.2.2.1.self 1 v, h.2.2.2.1.set (p := ⟨w.heap.size + 1 + 1, 1, none⟩) (by simp only; omega) v, h.2.2.2.2.1.set (p := ⟨w.heap.size + 1 + 1, 1, none⟩) (by simp only; omega) v, h.2.2.2.2.2.setCell (p := ⟨w.heap.size + 1 + 1, 1, none⟩) (by simp only; omega) v⟩
theorem WI.ownI {k : Nat} (hk : gs.length = k) (h : WI w gv lv sA sB sA' sB' gs ls W) : W.ownsRow (w.heap.size + 3) 3 1 sA k (gs.map (Value.int .i64)) := hk ▸ h.1
theorem WI.ownB {k : Nat} (hk : ls.length = k) (h : WI w gv lv sA sB sA' sB' gs ls W) : W.ownsRow (w.heap.size + 3) 4 1 sB k (ls.map Value.bool) := hk ▸ h.2.1
theorem WI.size (h : WI w gv lv sA sB sA' sB' gs ls W) : w.heap.size + 3 ≤ W.heap.size := by have := h.2.2.1.lt; omega
theorem WI.app1 {k : Nat} (hk : gs.length = k) (h : WI w gv lv sA sB sA' sB' gs ls W) {W' : World} {g cap : Nat} {x : Int} (hg : W.grownBy W' sA.ownBlock) (ho : W'.ownsRow (w.heap.size + 3) 3 1 (.slice (some ⟨g, 0, none⟩) (k + 1) cap) (k + 1) (gs.map (Value.int .i64) ++ [.int .i64 x])) :
    WI w gv lv (.slice (some ⟨g, 0, none⟩) (k + 1) cap) sB sA' sB' (gs ++ [x]) ls W' := by
  subst hk
  obtain ⟨h1, h2, h3, h4, h5, h6⟩ := h
  have hlt : ∀ k, sA.ownBlock = some k → w.heap.size + 3 ≤ k := fun k hk => (World.ownsRow.lt h1 k hk).1
  refine ⟨?_, ?_, h3.grown' hg (fun hc => by have := hlt _ hc; omega), h4.grown' hg (fun hc => by have := hlt _ hc; omega), h5.grown' hg (fun hc => by have := hlt _ hc; omega), h6.grown hg h6.size (fun k hk => by have := hlt _ hk; omega)⟩
  · show World.ownsRow _ _ _ _ _ _ _
    rw [List.length_append, List.map_append]
    exact ho
  · refine World.ownsRow.kept h2 hg ?_
    rcases h2.form with ⟨rfl, _⟩ | ⟨g2, cap2, rfl, _⟩
    · exact .inl rfl
    · right
      rcases h1.form with ⟨rfl, _⟩ | ⟨g1, cap1, rfl, _⟩
      · simp [Value.ownBlock]
      · have := own_apart h1 h2
        simp only [Value.ownBlock, ne_eq, Option.some.injEq] at this ⊢
        exact fun e => this e.symm
theorem WI.app2 {k : Nat} (hk : ls.length = k) (h : WI w gv lv sA sB sA' sB' gs ls W) {W' : World} {g cap : Nat} {x : Bool} (hg : W.grownBy W' sB.ownBlock) (ho : W'.ownsRow (w.heap.size + 3) 4 1 (.slice (some ⟨g, 0, none⟩) (k + 1) cap) (k + 1) (ls.map Value.bool ++ [.bool x])) :
    WI w gv lv sA (.slice (some ⟨g, 0, none⟩) (k + 1) cap) sA' sB' gs (ls ++ [x]) W' := by
  subst hk
  obtain ⟨h1, h2, h3, h4, h5, h6⟩ := h
  have hlt : ∀ k, sB.ownBlock = some k → w.heap.size + 3 ≤ k := fun k hk => (World.ownsRow.lt h2 k hk).1
  refine ⟨?_, ?_, h3.grown' hg (fun hc => by have := hlt _ hc; omega), h4.grown' hg (fun hc => by have := hlt _ hc; omega), h5.grown' hg (fun hc => by have := hlt _ hc; omega), h6.grown hg h6.size (fun k hk => by have := hlt _ hk; omega)⟩
  · refine World.ownsRow.kept h1 hg ?_
    rcases h1.form with ⟨rfl, _⟩ | ⟨g1, cap1, rfl, _⟩
    · exact .inl rfl
    · right
      rcases h2.form with ⟨rfl, _⟩ | ⟨g2, cap2, rfl, _⟩
      · simp [Value.ownBlock]
      · have := own_apart h1 h2
        simp only [Value.ownBlock, ne_eq, Option.some.injEq] at this ⊢
        exact this
  · show World.ownsRow _ _ _ _ _ _ _
    rw [List.length_append, List.map_append]
    exact ho
end
/-- k rounds done -/
def WR (w : World) (gv lv : Value) (gs : List Int) (ls : List Bool) (k : Nat) (W : World) : Prop := ∃ a p b q, WI w gv lv (.slice a k p) (.slice b k q) (.slice a k p) (.slice b k q) (gs.take k) (ls.take k) W

theorem take_more {α : Type} (xs : List α) (k : Nat) (d : α) (h : k < xs.length) : xs.take (k + 1) = xs.take k ++ [xs.getD k d] := by
  rw [List.take_add_one, List.getD_eq_getElem?_getD, List.getElem?_eq_getElem h]; rfl
theorem getD_set_self {α : Type} (xs : List α) (k : Nat) (x d : α) (h : k < xs.length) : (xs.set k x).getD k d = x := by
  simp [List.getD_eq_getElem?_getD, h]
theorem getD_set_far {α : Type} (xs : List α) (i k : Nat) (x d : α) (h : k ≠ i) : (xs.set i x).getD k d = xs.getD k d := by
  have : i ≠ k := fun e => h e.symm
  simp [List.getD_eq_getElem?_getD, this]
theorem cell_new (W : World) (x : Value) (t : TypeId) : (W.alloc (.cells #[x] t)).cell? ⟨W.heap.size, 0, none⟩ = some x := (Box.new W [x] t).cell 0 rfl
theorem cell_new_set (W : World) (p : Addr) (v x : Value) (t : TypeId) : ((W.setCell p v).alloc (.cells #[x] t)).cell? ⟨W.heap.size, 0, none⟩ = some x := by
  have := cell_new (W.setCell p v) x t
  rwa [size_set] at this
theorem WI.fin {w : World} {gv lv sA sB sA' sB' : Value} {gs : List Int} {ls : List Bool} {W W' : World} (h : WI w gv lv sA sB sA' sB' gs ls W) (hW : W' = (W.setCell ⟨w.heap.size + 1, 0, none⟩ sA).setCell ⟨w.heap.size + 1, 1, none⟩ sB) :
    OwnI W' w.heap.size sA gs ∧ OwnB W' w.heap.size sB ls ∧ Below w.heap.size w W' ∧ W'.cell? ⟨w.heap.size + 1, 0, none⟩ = some sA ∧ W'.cell? ⟨w.heap.size + 1, 1, none⟩ = some sB := by
  subst hW
  obtain ⟨h1, h2, h3, h4, h5, h6⟩ := h
  have B := (h5.self 0 sA).self 1 sB
  exact ⟨((h1.put (p := ⟨w.heap.size + 1, 0, none⟩) (by simp only; omega) sA).put (p := ⟨w.heap.size + 1, 1, none⟩) (by simp only; omega) sB).mono (by omega), ((h2.put (p := ⟨w.heap.size + 1, 0, none⟩) (by simp only; omega) sA).put (p := ⟨w.heap.size + 1, 1, none⟩) (by simp only; omega) sB).mono (by omega),
    (h6.setCell (p := ⟨w.heap.size + 1, 0, none⟩) (by simp only; omega) sA).setCell (p := ⟨w.heap.size + 1, 1, none⟩) (by simp only; omega) sB, B.cell 0 rfl, B.cell 1 rfl⟩
def wG (gs : List Int) (at_ : Nat) (gen : Int) : List Int := if at_ < gs.length then gs.set at_ gen else gs ++ [gen]
def wL (ls : List Bool) (at_ : Nat) (is : Bool) : List Bool := if at_ < ls.length then ls.set at_ is else ls ++ [is]

set_option maxHeartbeats 3200000 in
set_option maxRecDepth 100000 in
theorem with_c {F : Nat → Prop} (gv lv : Value) (gs : List Int) (ls : List Bool) (at_ : Nat) (gen : Int) (is : Bool) (w : World) (hlen : gs.length = ls.length) (hll : ls.length ≤ 1100) (hat : at_ ≤ ls.length) (hF : ∀ b, F b → b < w.heap.size) (hg : SlOf RInt 1 F w gv gs) (hl : SlOf RBool 1 F w lv ls) :
    Calls Try.prog 56 #[.agg #[gv, lv], .int .i64 at_, .int .i64 gen, .bool is] w (CPost w (wG gs at_ gen) (wL ls at_ is)) := by
  obtain ⟨ga, gc, rfl, _, hgm, _, hgcell⟩ := hg.ints
  obtain ⟨la, lc, rfl, _, hlm, hlcell⟩ := hl.bools
  have HCl : Hid ((∀ i, i < gs.length → ∃ b o, ga = some ⟨b, o, none⟩ ∧ b < w.heap.size ∧ ∀ j, j < gs.length → w.cell? ⟨b, o + j, none⟩ = some (.int .i64 (gs.getD j 0))) ∧ ∀ i, i < ls.length → ∃ b o, la = some ⟨b, o, none⟩ ∧ b < w.heap.size ∧ ∀ j, j < ls.length → w.cell? ⟨b, o + j, none⟩ = some (.bool (ls.getD j false))) :=
    ⟨fun i hi => by obtain ⟨b, o, h1, h2, h3⟩ := hgcell i hi; exact ⟨b, o, h1, hF b h2, h3⟩, fun i hi => by obtain ⟨b, o, h1, h2, h3⟩ := hlcell i hi; exact ⟨b, o, h1, hF b h2, h3⟩⟩
  have HN : Hid (gs.length = ls.length) := hlen
  have hgl : gs.length ≤ 1100 := by omega
  have hatg : at_ ≤ gs.length := by omega
  clear hgcell hlcell hg hl hF hlen
  go_enter Try.func56, Try.ntmps56
  have I0 : WR w (.slice ga gs.length gc) (.slice la ls.length lc) (gs.set at_ gen) (ls.set at_ is) 0 (((w.alloc (.cells #[.slice ga gs.length gc, .slice la ls.length lc] 46)).alloc (.cells #[.slice none 0 0, .slice none 0 0] 46)).alloc (.cells #[.slice none 0 0, .slice none 0 0] 46)) := by
    have b1 := Box.new w [.slice ga gs.length gc, .slice la ls.length lc] 46
    have b2 := Box.new (w.alloc (.cells #[.slice ga gs.length gc, .slice la ls.length lc] 46)) [.slice none 0 0, .slice none 0 0] 46
    have b3 := Box.new ((w.alloc (.cells #[.slice ga gs.length gc, .slice la ls.length lc] 46)).alloc (.cells #[.slice none 0 0, .slice none 0 0] 46)) [.slice none 0 0, .slice none 0 0] 46
    rw [size_alloc] at b2 b3
    rw [size_alloc] at b3
    exact ⟨none, 0, none, 0, World.ownsRow_nil _ _ _ _, World.ownsRow_nil _ _ _ _, b3, (b1.alloc _).alloc _, b2.alloc _, (((Below.refl _ w).alloc (Nat.le_refl _) _).alloc (by simp) _).alloc (by simp; omega) _⟩
  go_wp2_with fail
  go_loopw [10] (fun i wr => ∃ k : Nat, k ≤ gs.length ∧ i = .int .i64 k ∧ WR w (.slice ga gs.length gc) (.slice la ls.length lc) (gs.set at_ gen) (ls.set at_ is) k wr) (fun i _ => gs.length - (intOf i).toNat)
  case atStart => exact ⟨0, by omega, rfl, I0⟩
  case round =>
    obtain ⟨k, hk, rfl, a, p, b, q, I1⟩ := hrel
    clear I0
    have c0 := I1.c0
    have c1 := I1.c1
    have a0 := I1.a0
    have a1 := I1.a1
    have f0 := I1.f0
    have f1 := I1.f1
    have hs1 := I1.size
    obtain ⟨i3, hi3, hz0, hz1, hz2⟩ := info_parts infoI
    obtain ⟨i4, hi4, hy0, hy1, hy2⟩ := info_parts infoB
    have hg6 : (k + 1 ≤ maxLen ∧ (k + 1) * 8 ≤ 140737488355328) ∧ (k + 1) * 1 ≤ 140737488355328 := by unfold maxLen; omega
    by_cases hlt : k < gs.length
    · have hk0 : (k : Int) < (gs.length : Int) := by omega
      obtain ⟨G, eG⟩ : ∃ G, G = (gs.set at_ gen).take k := ⟨_, rfl⟩
      obtain ⟨L, eL⟩ : ∃ L, L = (ls.set at_ is).take k := ⟨_, rfl⟩
      rw [← eG, ← eL] at I1
      have HG : Hid (G.length = k ∧ (gs.set at_ gen).take (k + 1) = G ++ [(gs.set at_ gen).getD k 0]) := ⟨by rw [eG]; simp; omega, by rw [eG]; exact take_more _ _ _ (by simp; omega)⟩
      have HL : Hid (L.length = k ∧ (ls.set at_ is).take (k + 1) = L ++ [(ls.set at_ is).getD k false]) := ⟨by rw [eL]; simp; have := HN.out; omega, by rw [eL]; exact take_more _ _ _ (by simp; have := HN.out; omega)⟩
      clear eG eL
      by_cases hka : k = at_
      · subst hka
        have HX : Hid ((gs.set k gen).getD k 0 = gen ∧ (ls.set k is).getD k false = is) := ⟨by rw [getD_set_self _ _ _ _ hlt], by rw [getD_set_self _ _ _ _ (by have := HN.out; omega)]⟩
        go_wp2_with (first
          | (at_builtin; refine wpList_append_lies _ rfl _ _ 41 rfl (w.heap.size + 3) 3 i3 (.int .i64 0) 1 8 Try.underlying41 hi3 hz0 hz1 hz2 rfl (by decide) (.slice a k p) k _ rfl (WI.ownI HG.out.1 (w := w) (gv := .slice ga gs.length gc) (lv := .slice la ls.length lc) (sA := .slice a k p) (sB := .slice b k q) (sA' := .slice a k p) (sB' := .slice b k q) (gs := G) (ls := L) (by repeat' (first | assumption | (with_reducible refine WI.alloc ?_ _) | (with_reducible refine WI.drew ?_) | (exact WI.store0 I2 _)))) _ 1 1 [.int .i64 gen] rfl rfl (news_one (by first | assumption | (exact cell_new_set _ _ _ _ _) | (simp; done))) (by simp [Value.oneCell']) (by decide) hg6.1.1 hg6.1.2 (by first | assumption | omega | (simp; done) | (simp; omega)) _ rfl ?_; intro g1 c1' w7 hown7 hgrow7 hat7 hlt7; have I2 := WI.app1 HG.out.1 (w := w) (gv := .slice ga gs.length gc) (lv := .slice la ls.length lc) (sA := .slice a k p) (sB := .slice b k q) (sA' := .slice a k p) (sB' := .slice b k q) (gs := G) (ls := L) (by repeat' (first | assumption | (with_reducible refine WI.alloc ?_ _) | (with_reducible refine WI.drew ?_) | (exact WI.store0 I2 _))) hgrow7 hown7; have k0 := I2.c0; have k1 := I2.c1; have m0 := I2.f0; have m1 := I2.f1; have hs7 := I2.size; clear hown7 hgrow7 hat7)
          | (at_builtin; refine wpList_append_lies _ rfl _ _ 44 rfl (w.heap.size + 3) 4 i4 (.bool false) 1 1 Try.underlying44 hi4 hy0 hy1 hy2 rfl (by decide) (.slice b k q) k _ rfl (WI.ownB HL.out.1 (w := w) (gv := .slice ga gs.length gc) (lv := .slice la ls.length lc) (sA := .slice (some ⟨g1, 0, none⟩) (k + 1) c1') (sB := .slice b k q) (sA' := .slice (some ⟨g1, 0, none⟩) (k + 1) c1') (sB' := .slice b k q) (gs := (G ++ [gen])) (ls := L) (by repeat' (first | assumption | (with_reducible refine WI.alloc ?_ _) | (with_reducible refine WI.drew ?_) | (exact WI.store0 I2 _)))) _ 1 1 [.bool is] rfl rfl (news_one (by first | assumption | (exact cell_new_set _ _ _ _ _) | (simp; done))) (by simp [Value.oneCell']) (by decide) hg6.1.1 hg6.2 (by first | assumption | omega | (simp; done) | (simp; omega)) _ rfl ?_; intro g2 c2' w8 hown8 hgrow8 hat8 hlt8; have I3 := WI.app2 HL.out.1 (w := w) (gv := .slice ga gs.length gc) (lv := .slice la ls.length lc) (sA := .slice (some ⟨g1, 0, none⟩) (k + 1) c1') (sB := .slice b k q) (sA' := .slice (some ⟨g1, 0, none⟩) (k + 1) c1') (sB' := .slice b k q) (gs := (G ++ [gen])) (ls := L) (by repeat' (first | assumption | (with_reducible refine WI.alloc ?_ _) | (with_reducible refine WI.drew ?_) | (exact WI.store0 I2 _))) hgrow8 hown8; have k2 := I3.c0; have k3 := I3.c1; have m2 := I3.f0; have m3 := I3.f1; have hs8 := I3.size; clear hown8 hgrow8 hat8))
        go_roundw
        case rel =>
          refine ⟨k + 1, by omega, by go_num, some ⟨g1, 0, none⟩, c1', some ⟨g2, 0, none⟩, c2', ?_⟩
          rw [HG.out.2, HL.out.2, HX.out.1, HX.out.2]
          exact I3.store1 _
        case measure => simp [intOf]; omega
      · have hd : ((k : Int) == (at_ : Int)) = false := by simp; omega
        obtain ⟨b0, o0, hga, hb0, hcl0⟩ := HCl.out.1 k hlt
        obtain ⟨b2, o2, hla, hb2, hcl2⟩ := HCl.out.2 k (by have := HN.out; omega)
        subst hga hla
        have d0 := (I1.2.2.2.2.2.cell (p := ⟨b0, o0 + k, none⟩) hb0).trans (hcl0 k hlt)
        have d2 := (I1.2.2.2.2.2.cell (p := ⟨b2, o2 + k, none⟩) hb2).trans (hcl2 k (by have := HN.out; omega))
        have HX : Hid ((gs.set at_ gen).getD k 0 = gs.getD k 0 ∧ (ls.set at_ is).getD k false = ls.getD k false) := ⟨getD_set_far _ _ _ _ _ hka, getD_set_far _ _ _ _ _ hka⟩
        have hk4 : k < ls.length := by have := HN.out; omega
        have H2 : Hid (w.cell? ⟨b2, o2 + k, none⟩ = some (.bool (ls.getD k false))) := hcl2 k hk4
        generalize gs.getD k 0 = x at *
        generalize ls.getD k false = y at *
        have hk2 : (k : Int) < (ls.length : Int) := by have := HN.out; omega
        have hk3 : (0 : Int) ≤ (k : Int) := by omega
        have e0 := fun o => (I1.alloc o).c0
        clear hcl0 hcl2 HCl
        go_wp2_with fail
        go_region_law
          (first
          | (refine step_append_lies _ rfl _ _ 41 rfl (w.heap.size + 3) 3 i3 (.int .i64 0) 1 8 Try.underlying41 hi3 hz0 hz1 hz2 rfl (by decide) (.slice a k p) k _ rfl (WI.ownI HG.out.1 (w := w) (gv := .slice (some ⟨b0, o0, none⟩) gs.length gc) (lv := .slice (some ⟨b2, o2, none⟩) ls.length lc) (sA := .slice a k p) (sB := .slice b k q) (sA' := .slice a k p) (sB' := .slice b k q) (gs := G) (ls := L) (by repeat' (first | assumption | (with_reducible refine WI.alloc ?_ _) | (with_reducible refine WI.drew ?_) | (exact WI.store0 I2 _)))) _ 1 1 [.int .i64 x] rfl rfl (news_one (by first | assumption | (exact cell_new_set _ _ _ _ _) | (simp; done))) (by simp [Value.oneCell']) (by decide) hg6.1.1 hg6.1.2 (by first | assumption | omega | (simp; done) | (simp; omega)) _ rfl ?_; intro g1 c1' w7 hown7 hgrow7 hat7 hlt7; have I2 := WI.app1 HG.out.1 (w := w) (gv := .slice (some ⟨b0, o0, none⟩) gs.length gc) (lv := .slice (some ⟨b2, o2, none⟩) ls.length lc) (sA := .slice a k p) (sB := .slice b k q) (sA' := .slice a k p) (sB' := .slice b k q) (gs := G) (ls := L) (by repeat' (first | assumption | (with_reducible refine WI.alloc ?_ _) | (with_reducible refine WI.drew ?_) | (exact WI.store0 I2 _))) hgrow7 hown7; have k0 := I2.c0; have k1 := I2.c1; have m0 := I2.f0; have m1 := I2.f1; have hs7 := I2.size; clear hown7 hgrow7 hat7))
        all_goals
          have J := I2.store0 (.slice (some ⟨g1, 0, none⟩) (k + 1) c1')
          clear I1 I2 k0 k1 m0 m1 hs7 c0 c1 a0 a1 f0 f1 hs1 d0 d2 e0
          generalize w7.setCell ⟨w.heap.size + 1 + 1, 0, none⟩ (.slice (some ⟨g1, 0, none⟩) (k + 1) c1') = W' at *
          clear hlt7
          have c0 := J.c0
          have c1 := J.c1
          have a0 := J.a0
          have a1 := J.a1
          have f0 := J.f0
          have f1 := J.f1
          have hs1 := J.size
          have d2 := (J.2.2.2.2.2.cell (p := ⟨b2, o2 + k, none⟩) hb2).trans H2.out
          have e0 := fun o => (J.alloc o).c1
          go_wp2_with fail
          go_region_law
            (first
            | (refine step_append_lies _ rfl _ _ 44 rfl (w.heap.size + 3) 4 i4 (.bool false) 1 1 Try.underlying44 hi4 hy0 hy1 hy2 rfl (by decide) (.slice b k q) k _ rfl (WI.ownB HL.out.1 (w := w) (gv := .slice (some ⟨b0, o0, none⟩) gs.length gc) (lv := .slice (some ⟨b2, o2, none⟩) ls.length lc) (sA := .slice (some ⟨g1, 0, none⟩) (k + 1) c1') (sB := .slice b k q) (sA' := .slice (some ⟨g1, 0, none⟩) (k + 1) c1') (sB' := .slice b k q) (gs := (G ++ [x])) (ls := L) (by repeat' (first | assumption | (with_reducible refine WI.alloc ?_ _) | (with_reducible refine WI.drew ?_) | (exact WI.store0 I2 _)))) _ 1 1 [.bool y] rfl rfl (news_one (by first | assumption | (exact cell_new_set _ _ _ _ _) | (simp; done))) (by simp [Value.oneCell']) (by decide) hg6.1.1 hg6.2 (by first | assumption | omega | (simp; done) | (simp; omega)) _ rfl ?_; intro g2 c2' w8 hown8 hgrow8 hat8 hlt8; have I3 := WI.app2 HL.out.1 (w := w) (gv := .slice (some ⟨b0, o0, none⟩) gs.length gc) (lv := .slice (some ⟨b2, o2, none⟩) ls.length lc) (sA := .slice (some ⟨g1, 0, none⟩) (k + 1) c1') (sB := .slice b k q) (sA' := .slice (some ⟨g1, 0, none⟩) (k + 1) c1') (sB' := .slice b k q) (gs := (G ++ [x])) (ls := L) (by repeat' (first | assumption | (with_reducible refine WI.alloc ?_ _) | (with_reducible refine WI.drew ?_) | (exact WI.store0 I2 _))) hgrow8 hown8; have k2 := I3.c0; have k3 := I3.c1; have m2 := I3.f0; have m3 := I3.f1; have hs8 := I3.size; clear hown8 hgrow8 hat8))
          all_goals
            have J3 := I3.store1 (.slice (some ⟨g2, 0, none⟩) (k + 1) c2')
            clear J I3 k2 k3 m2 m3 hs8 c0 c1 a0 a1 f0 f1 hs1 d2 e0
            go_wp2_with fail
            go_roundw
            case rel =>
              refine ⟨k + 1, by omega, by go_num, some ⟨g1, 0, none⟩, c1', some ⟨g2, 0, none⟩, c2', ?_⟩
              rw [HG.out.2, HL.out.2, HX.out.1, HX.out.2]
              exact J3
            case measure => simp [intOf]; omega
    · have hke : k = gs.length := by omega
      have HG0 : Hid ((gs.set at_ gen).take k = gs.set at_ gen ∧ (ls.set at_ is).take k = ls.set at_ is) := by
        rw [hke]
        refine ⟨List.take_of_length_le (by simp), List.take_of_length_le (by simp; have := HN.out; omega)⟩
      rw [HG0.out.1, HG0.out.2] at I1
      have HK : Hid ((gs.set at_ gen).length = k ∧ (ls.set at_ is).length = k) := ⟨by simp [hke], by simp [hke]; exact HN.out.symm⟩
      have z0 := I1.2.2.2.2.1.frozen 0
      have z1 := I1.2.2.2.2.1.frozen 1
      have z2 := I1.2.2.2.2.1.cell 0 rfl
      have z3 := I1.2.2.2.2.1.cell 1 rfl
      have HW : Hid ((at_ < gs.length → wG gs at_ gen = gs.set at_ gen ∧ wL ls at_ is = ls.set at_ is) ∧ (at_ = gs.length → wG gs at_ gen = gs.set at_ gen ++ [gen] ∧ wL ls at_ is = ls.set at_ is ++ [is])) := by
        unfold wG wL
        refine ⟨fun h => ?_, fun h => ?_⟩
        · rw [if_pos h, if_pos (by have := HN.out; omega)]
          exact ⟨rfl, rfl⟩
        · rw [if_neg (by omega), if_neg (by have := HN.out; omega), List.set_eq_of_length_le (by omega), List.set_eq_of_length_le (by have := HN.out; omega)]
          exact ⟨rfl, rfl⟩
      clear hlt hk HG0 HCl
      have hke' := hke.symm
      clear hke
      generalize gs.length = n at *
      subst hke'
      by_cases hat2 : at_ < n
      · have hd : ((at_ : Int) == (n : Int)) = false := by simp; omega
        have HF : Hid (OwnI _ _ _ _ ∧ OwnB _ _ _ _ ∧ Below _ _ _ ∧ _ ∧ _) := I1.fin rfl
        have HW1 : Hid (wG gs at_ gen = gs.set at_ gen ∧ wL ls at_ is = ls.set at_ is) := HW.out.1 hat2
        clear HW I1
        go_wp2_with fail
        obtain ⟨r1, r2, r3, r4, r5⟩ := HF.out
        refine bodyPost_ret (v := .agg #[.slice a n p, .slice b n q]) (by simp [results, Try.results56, go_sem, r4, r5]) rfl ⟨a, p, b, q, ?_, ?_, ?_, r3⟩
        · rw [HW1.out.1, HW1.out.2, HK.out.1, HK.out.2]
        · rw [HW1.out.1]
          have := r1
          unfold OwnI at this ⊢
          rw [HK.out.1] at this ⊢; exact this
        · rw [HW1.out.2]
          have := r2
          unfold OwnB at this ⊢
          rw [HK.out.2] at this ⊢; exact this
      · have hae : at_ = n := by omega
        have HW1 : Hid (wG gs at_ gen = gs.set at_ gen ++ [gen] ∧ wL ls at_ is = ls.set at_ is ++ [is]) := HW.out.2 hae
        clear HW
        generalize gs.set at_ gen = G at *
        generalize ls.set at_ is = L at *
        have HG : Hid (G.length = n ∧ True) := ⟨HK.out.1, trivial⟩
        have HL : Hid (L.length = n ∧ True) := ⟨HK.out.2, trivial⟩
        clear HK hat2
        subst hae
        go_wp2_with (first
          | (at_builtin; refine wpList_append_lies _ rfl _ _ 41 rfl (w.heap.size + 3) 3 i3 (.int .i64 0) 1 8 Try.underlying41 hi3 hz0 hz1 hz2 rfl (by decide) (.slice a at_ p) at_ _ rfl (WI.ownI HG.out.1 (w := w) (gv := .slice ga at_ gc) (lv := .slice la ls.length lc) (sA := .slice a at_ p) (sB := .slice b at_ q) (sA' := .slice a at_ p) (sB' := .slice b at_ q) (gs := G) (ls := L) (by repeat' (first | assumption | (with_reducible refine WI.alloc ?_ _) | (with_reducible refine WI.drew ?_) | (exact WI.store0 I2 _)))) _ 1 1 [.int .i64 gen] rfl rfl (news_one (by first | assumption | (exact cell_new_set _ _ _ _ _) | (simp; done))) (by simp [Value.oneCell']) (by decide) hg6.1.1 hg6.1.2 (by first | assumption | omega | (simp; done) | (simp; omega)) _ rfl ?_; intro g1 c1' w7 hown7 hgrow7 hat7 hlt7; have I2 := WI.app1 HG.out.1 (w := w) (gv := .slice ga at_ gc) (lv := .slice la ls.length lc) (sA := .slice a at_ p) (sB := .slice b at_ q) (sA' := .slice a at_ p) (sB' := .slice b at_ q) (gs := G) (ls := L) (by repeat' (first | assumption | (with_reducible refine WI.alloc ?_ _) | (with_reducible refine WI.drew ?_) | (exact WI.store0 I2 _))) hgrow7 hown7; have k0 := I2.c0; have k1 := I2.c1; have m0 := I2.f0; have m1 := I2.f1; have hs7 := I2.size; clear hown7 hgrow7 hat7)
          | (at_builtin; refine wpList_append_lies _ rfl _ _ 44 rfl (w.heap.size + 3) 4 i4 (.bool false) 1 1 Try.underlying44 hi4 hy0 hy1 hy2 rfl (by decide) (.slice b at_ q) at_ _ rfl (WI.ownB HL.out.1 (w := w) (gv := .slice ga at_ gc) (lv := .slice la ls.length lc) (sA := .slice (some ⟨g1, 0, none⟩) (at_ + 1) c1') (sB := .slice b at_ q) (sA' := .slice (some ⟨g1, 0, none⟩) (at_ + 1) c1') (sB' := .slice b at_ q) (gs := (G ++ [gen])) (ls := L) (by repeat' (first | assumption | (with_reducible refine WI.alloc ?_ _) | (with_reducible refine WI.drew ?_) | (exact WI.store0 I2 _)))) _ 1 1 [.bool is] rfl rfl (news_one (by first | assumption | (exact cell_new_set _ _ _ _ _) | (simp; done))) (by simp [Value.oneCell']) (by decide) hg6.1.1 hg6.2 (by first | assumption | omega | (simp; done) | (simp; omega)) _ rfl ?_; intro g2 c2' w8 hown8 hgrow8 hat8 hlt8; have I3 := WI.app2 HL.out.1 (w := w) (gv := .slice ga at_ gc) (lv := .slice la ls.length lc) (sA := .slice (some ⟨g1, 0, none⟩) (at_ + 1) c1') (sB := .slice b at_ q) (sA' := .slice (some ⟨g1, 0, none⟩) (at_ + 1) c1') (sB' := .slice b at_ q) (gs := (G ++ [gen])) (ls := L) (by repeat' (first | assumption | (with_reducible refine WI.alloc ?_ _) | (with_reducible refine WI.drew ?_) | (exact WI.store0 I2 _))) hgrow8 hown8; have k2 := I3.c0; have k3 := I3.c1; have m2 := I3.f0; have m3 := I3.f1; have m4 := I3.2.2.2.2.1.frozen 0; have m5 := I3.2.2.2.2.1.frozen 1; have m6 := I3.2.2.2.2.1.cell 0 rfl; have m7 := I3.2.2.2.2.1.cell 1 rfl; have hs8 := I3.size; clear hown8 hgrow8 hat8))
        have HF : Hid (OwnI _ _ _ _ ∧ OwnB _ _ _ _ ∧ Below _ _ _ ∧ _ ∧ _) := (I3.store1 (.slice (some ⟨g2, 0, none⟩) (at_ + 1) c2')).fin rfl
        obtain ⟨r1, r2, r3, r4, r5⟩ := HF.out
        refine bodyPost_ret (v := .agg #[.slice (some ⟨g1, 0, none⟩) (at_ + 1) c1', .slice (some ⟨g2, 0, none⟩) (at_ + 1) c2']) (by simp [results, Try.results56, go_sem, r4, r5]) rfl ⟨some ⟨g1, 0, none⟩, c1', some ⟨g2, 0, none⟩, c2', ?_, ?_, ?_, r3⟩
        · rw [HW1.out.1, HW1.out.2, List.length_append, List.length_append, HG.out.1, HL.out.1]; rfl
        · rw [HW1.out.1, show (G ++ [gen]).length = at_ + 1 by rw [List.length_append, HG.out.1]; rfl]; exact r1
        · rw [HW1.out.2, show (L ++ [is]).length = at_ + 1 by rw [List.length_append, HL.out.1]; rfl]; exact r2
end Go.Proofs.Ytlcefgdiclpcjaa
