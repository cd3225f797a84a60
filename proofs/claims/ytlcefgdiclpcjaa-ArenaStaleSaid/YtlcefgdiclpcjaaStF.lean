/- Layer 22: what the operations of 'c, is := arena.Free(b, l[k])' yield. -/
import Derived.Test.YtlcefgdiclpcjaaStM
import Derived.Test.YtlcefgdiclpcjaaEachR
import Derived.Deep.AppendLies
namespace Go.Proofs.Ytlcefgdiclpcjaa
open Go.RowKit Go.Bx
set_option linter.unusedVariables false

theorem index_ok (x : Int) (n : Nat) (h0 : 0 < n) (h1 : n ≤ 60) : ∃ jj : Nat, jj < n ∧ wrap64 ((IntKind.u64.wrap x).tmod n) = (jj : Int) := by
  have hw : 0 ≤ IntKind.u64.wrap x := by
    unfold IntKind.wrap
    simp [IntKind.signed, IntKind.bits]
    exact Int.emod_nonneg _ (by decide)
  generalize IntKind.u64.wrap x = y at *
  rw [Int.tmod_eq_emod_of_nonneg hw]
  have a1 := Int.emod_nonneg y (show (n : Int) ≠ 0 by omega)
  have a2 := Int.emod_lt_of_pos y (show (0 : Int) < n by omega)
  refine ⟨(y % (n : Int)).toNat, by omega, ?_⟩
  unfold wrap64
  omega
theorem heap_set {W : World} {g i : Nat} {cs : Array Value} {t : TypeId} {f : Nat × Nat} (v : Value) (h : W.heap[g]? = some (.cells cs t f)) : (W.setCell ⟨g, i, none⟩ v).heap[g]? = some (.cells (cs.setIfInBounds i v) t f) := by
  simp [World.setCell, Array.getElem?_modify, h]
theorem heap_far {W : World} {g g' i : Nat} (v : Value) (h : g' ≠ g) : (W.setCell ⟨g, i, none⟩ v).heap[g']? = W.heap[g']? := Below.heap_setCell _ _ _ _ h
section
variable {w : World} {nb : Nat} {gv lv x y : Value} {a b d : Option Addr} {n m p q k r : Nat} {G : List Int} {L : List Bool} {ids : List (Int × Int)} {W : World}
theorem SI.put (h : SI w nb gv lv x y (.slice a n p) (.slice b m q) G L (.slice d k r) ids W) {g : Nat} {cs : Array Value} (hg : W.heap[g]? = some (.cells cs 46 (0, 0))) (hlt : nb < g) (i : Nat) (v : Value) :
    SI w nb gv lv x y (.slice a n p) (.slice b m q) G L (.slice d k r) ids (W.setCell ⟨g, i, none⟩ v) := by
  obtain ⟨k1, k2, k3, k4, k5, k6, k7, k8⟩ := h
  exact ⟨k1.set (p := ⟨g, i, none⟩) (by simp only; omega) _, k2.set (p := ⟨g, i, none⟩) (by simp only; omega) _, (heap_far _ (by omega)).trans k3, k4, k5.put' (p := ⟨g, i, none⟩) (own_offI k5 hg (by decide)) _, k6.put' (p := ⟨g, i, none⟩) (own_offB k6 hg (by decide)) _,
    k7.put' (p := ⟨g, i, none⟩) (k7.off hg (by decide)) _, k8.setCell (p := ⟨g, i, none⟩) (by simp only; omega) _⟩
end
/-- what they yield -/
def FT (B n2 : Nat) (sG sL sl : Value) (jj : Nat) (gd : Nat) (i1 i2 : Int) (G : List Int) (L : List Bool) (i : Nat) (v v' : Value) (W : World) : Prop := match i with
  | 0 => v = .agg #[sG, sL]
  | 1 => v = sl
  | 2 => v = .int .i64 jj
  | 3 => v = .pointer (some ⟨gd, jj * 2, none⟩)
  | 4 => v = .agg #[.int .i64 i1, .int .i64 i2]
  | 5 => ∃ a p b q, v = .tuple #[.agg #[.slice a G.length p, .slice b L.length q], .bool true] ∧ OwnI W B (.slice a G.length p) G ∧ OwnB W B (.slice b L.length q) L
  | 6 => ∃ a p b q, v = .tuple #[.agg #[.slice a G.length p, .slice b L.length q], .bool true] ∧ OwnI W B (.slice a G.length p) G ∧ OwnB W B (.slice b L.length q) L
  | 7 => ∃ a p b q, v = .agg #[.slice a G.length p, .slice b L.length q] ∧ OwnI W B (.slice a G.length p) G ∧ OwnB W B (.slice b L.length q) L
  | 8 => v = .bool true
  | 9 => ∃ g c d, v = .pointer (some ⟨g, 0, none⟩) ∧ n2 ≤ g ∧ W.heap[g]? = some (.cells #[c, d] 46 (0, 0))
  | 10 => ∃ g a p b q, v' = .pointer (some ⟨g, 0, none⟩) ∧ n2 ≤ g ∧ W.heap[g]? = some (.cells #[.slice a G.length p, .slice b L.length q] 46 (0, 0)) ∧ OwnI W B (.slice a G.length p) G ∧ OwnB W B (.slice b L.length q) L
  | 11 => v = .bool true
  | _ => True
section
variable {B n2 : Nat} {sG sL sl : Value} {jj gd : Nat} {i1 i2 : Int} {G : List Int} {L : List Bool}
theorem FT.below {i : Nat} {v v' : Value} {W W' : World} (h : FT B n2 sG sL sl jj gd i1 i2 G L i v v' W) (hb : Below W.heap.size W W') : FT B n2 sG sL sl jj gd i1 i2 G L i v v' W' := by
  match i, h with
  | 0, h => exact h
  | 1, h => exact h
  | 2, h => exact h
  | 3, h => exact h
  | 4, h => exact h
  | 5, ⟨a, p, b, q, h1, h2, h3⟩ => exact ⟨a, p, b, q, h1, h2.below hb, h3.below hb⟩
  | 6, ⟨a, p, b, q, h1, h2, h3⟩ => exact ⟨a, p, b, q, h1, h2.below hb, h3.below hb⟩
  | 7, ⟨a, p, b, q, h1, h2, h3⟩ => exact ⟨a, p, b, q, h1, h2.below hb, h3.below hb⟩
  | 8, h => exact h
  | 9, ⟨g, c, d, h1, h2, h3⟩ => exact ⟨g, c, d, h1, h2, (hb.block g (Array.getElem?_eq_some_iff.1 h3).1).trans h3⟩
  | 10, ⟨g, a, p, b, q, h1, h2, h3, h4, h5⟩ => exact ⟨g, a, p, b, q, h1, h2, (hb.block g (Array.getElem?_eq_some_iff.1 h3).1).trans h3, h4.below hb, h5.below hb⟩
  | 11, h => exact h
  | _ + 12, _ => trivial
theorem FT.put {i : Nat} {v v' : Value} {W : World} {g j : Nat} {c d : Value} (hi : i ≠ 10) (h : FT B n2 sG sL sl jj gd i1 i2 G L i v v' W) (hg : W.heap[g]? = some (.cells #[c, d] 46 (0, 0))) (u : Value) : FT B n2 sG sL sl jj gd i1 i2 G L i v v' (W.setCell ⟨g, j, none⟩ u) := by
  match i, hi, h with
  | 0, _, h => exact h
  | 1, _, h => exact h
  | 2, _, h => exact h
  | 3, _, h => exact h
  | 4, _, h => exact h
  | 5, _, ⟨a, p, b, q, h1, h2, h3⟩ => exact ⟨a, p, b, q, h1, h2.put' (p := ⟨g, j, none⟩) (own_offI h2 hg (by decide)) _, h3.put' (p := ⟨g, j, none⟩) (own_offB h3 hg (by decide)) _⟩
  | 6, _, ⟨a, p, b, q, h1, h2, h3⟩ => exact ⟨a, p, b, q, h1, h2.put' (p := ⟨g, j, none⟩) (own_offI h2 hg (by decide)) _, h3.put' (p := ⟨g, j, none⟩) (own_offB h3 hg (by decide)) _⟩
  | 7, _, ⟨a, p, b, q, h1, h2, h3⟩ => exact ⟨a, p, b, q, h1, h2.put' (p := ⟨g, j, none⟩) (own_offI h2 hg (by decide)) _, h3.put' (p := ⟨g, j, none⟩) (own_offB h3 hg (by decide)) _⟩
  | 8, _, h => exact h
  | 9, _, ⟨g', c', d', h1, h2, h3⟩ =>
    by_cases e : g' = g
    · subst e
      have h4 := heap_set (i := j) u hg
      match j, h4 with
      | 0, h4 => exact ⟨g', u, d, h1, h2, h4⟩
      | 1, h4 => exact ⟨g', c, u, h1, h2, h4⟩
      | j + 2, h4 => exact ⟨g', c, d, h1, h2, h4⟩
    · exact ⟨g', c', d', h1, h2, (heap_far _ e).trans h3⟩
  | 11, _, h => exact h
  | _ + 12, _, _ => trivial
end

theorem app_emptyN {P : Program} {w : World} {B : Nat} (t e : TypeId) (i : TypeInfo) (z : Value) (size bytes : Nat) (ht : P.underlying t = some (.slice e)) (hi : P.info? e = some i) (hz : i.zero = some z) (hsize : i.size = size) (hby : i.bytes = bytes) (hzs : z.cells.size = size) (hs0 : 0 < size)
    {g : Nat} (hv : w.ownsRow B e size (.slice (some ⟨g, 0, none⟩) 0 0) 0 []) (a : Option Addr) (m c : Nat) (news : List Value) (hl : news.length = m * size) (hnews : ∀ b, a = some b → ∀ j u, news[j]? = some u → w.cell? (b.add j) = some u) (h1 : ∀ u ∈ news, u.oneCell' = true)
    (hnone : a = none → m = 0) (h63 : m ≤ maxLen) (hbytes : m * bytes ≤ 140737488355328) (hB : B ≤ w.heap.size) :
    ∃ a' c' w', (Builtin.append_ #[t, t] t #[.slice (some ⟨g, 0, none⟩) 0 0, .slice a m c]).run P w = .ok (.slice a' m c') w' ∧ w'.ownsRow B e size (.slice a' m c') m news ∧ Below w.heap.size w w' := by
  by_cases hm : m = 0
  · subst hm
    have hn : news = [] := List.eq_nil_of_length_eq_zero (by simpa using hl)
    subst hn
    refine ⟨some ⟨g, 0, none⟩, 0, w, ?_, hv, Below.refl _ _⟩
    cases a with
    | none => exact run_append_nothing w t t t e i ht hi _ 0 0 (Nat.le_refl _) _ (Src.ofNil w ht c)
    | some ad => exact run_append_nothing w t t t e i ht hi _ 0 0 (Nat.le_refl _) _ (Src.ofSlice w ht ad 0 c [] (by simp) (by simp) (by simp))
  · obtain ⟨ad, rfl⟩ : ∃ ad, a = some ad := by
      cases a with
      | none => exact absurd (hnone rfl) hm
      | some ad => exact ⟨ad, rfl⟩
    obtain ⟨v', w', hr, ho, hg⟩ := run_append_arg_grows (P := P) w t t e i z size bytes ht hi hz hsize hby hzs hs0 ⟨g, 0, none⟩ 0 0 [] (by simp) (by simp) ad m c news hl (hnews ad rfl) (by omega) (by omega) (by rw [Nat.zero_add]; exact hbytes)
    rw [Nat.zero_add, List.nil_append] at ho
    obtain ⟨g', c', rfl, _, _⟩ := World.ownsRow.form ho (by omega)
    exact ⟨_, c', w', hr, World.ownsRow.mono ho hB, (Below.refl _ w).grown hg (Nat.le_refl _) (fun k hk => by cases hk)⟩
theorem erase_cells (ids : List (Int × Int)) (j : Nat) : idCells (ids.take j) ++ idCells (ids.drop (j + 1)) = idCells (ids.eraseIdx j) := by
  rw [← idCells_app, List.eraseIdx_eq_take_drop_succ]
/-- 'append(append([]Id{}, l[:j]...), l[j+1:]...)': the outer one -/
theorem app_rest {w : World} {B : Nat} {ids : List (Int × Int)} {j : Nat} (hj : j < ids.length) (hn : ids.length ≤ 60) {a : Option Addr} {c : Nat} (hv : OwnD w B (.slice a (ids.take j).length c) (ids.take j)) (hB : B ≤ w.heap.size) (ao : Option Addr) (gd co : Nat) (hao : 0 < ids.length - (j + 1) → ao = some ⟨gd, (j + 1) * 2, none⟩)
    (hc : ∀ i, i < ids.length * 2 → w.cell? ⟨gd, i, none⟩ = (idCells ids)[i]?) :
    ∃ a' c' w', (Builtin.append_ #[58, 58] 58 #[.slice a (ids.take j).length c, .slice ao (ids.length - (j + 1)) co]).run Try.prog w = .ok (.slice a' (ids.eraseIdx j).length c') w' ∧ OwnD w' B (.slice a' (ids.eraseIdx j).length c') (ids.eraseIdx j) ∧ w.grownBy w' (Value.slice a (ids.take j).length c).ownBlock := by
  obtain ⟨i3, hi3, hz0, hz1, hz2⟩ := info_parts infoD
  have hlen : (ids.eraseIdx j).length = (ids.take j).length + (ids.length - (j + 1)) := by rw [List.length_eraseIdx, if_pos hj, List.length_take]; omega
  by_cases hm : ids.length - (j + 1) = 0
  · have hd : ids.drop (j + 1) = [] := List.drop_eq_nil_of_le (by omega)
    have he : ids.eraseIdx j = ids.take j := by rw [List.eraseIdx_eq_take_drop_succ, hd, List.append_nil]
    rw [hm, he]
    have hle : (ids.take j).length ≤ c := by
      rcases hv.form with ⟨h, h'⟩ | ⟨g, cap, h, _, _, h2, _⟩
      · rw [h']; simp
      · cases h; exact h2
    refine ⟨a, c, w, ?_, hv, World.grownBy.refl _ _⟩
    cases ao with
    | none => exact run_append_nothing w _ _ _ _ i3 Try.underlying58 hi3 a _ c hle _ (Src.ofNil w Try.underlying58 co)
    | some ad => exact run_append_nothing w _ _ _ _ i3 Try.underlying58 hi3 a _ c hle _ (Src.ofSlice w Try.underlying58 ad 0 co [] (by simp) (by simp) (by simp))
  · have hao' := hao (by omega)
    subst hao'
    have hl : (idCells (ids.drop (j + 1))).length = (ids.length - (j + 1)) * 2 := by rw [idCells_len, List.length_drop]
    obtain ⟨v', w', hr, ho, hg, _, _⟩ := run_append_own_at (P := Try.prog) w B 58 58 48 i3 (.agg #[.int .i64 0, .int .i64 0]) 2 16 Try.underlying58 hi3 hz0 hz1 hz2 rfl (by decide) _ _ _ hv ⟨gd, (j + 1) * 2, none⟩ (ids.length - (j + 1)) co (idCells (ids.drop (j + 1))) hl (by
      intro i u hu
      have hi : i < (ids.length - (j + 1)) * 2 := by rw [← hl]; exact (List.getElem?_eq_some_iff.1 hu).1
      rw [Go.WideShapes.add_plain, hc _ (by omega), ← hu, ← idCells_drop, List.getElem?_drop]) idCells_one (by rw [List.length_take]; unfold maxLen; omega) (by rw [List.length_take]; omega) hB
    rw [erase_cells, ← hlen] at ho
    have ho' : OwnD w' B v' (ids.eraseIdx j) := ho
    obtain ⟨a', c', rfl⟩ := ho'.isSl
    exact ⟨a', c', w', hr, ho', hg⟩

theorem wrap_succ (jj n : Nat) (h : jj < n) (h' : n ≤ 60) : IntKind.i64.wrap ((jj : Int) + 1) = (jj : Int) + 1 := by
  unfold IntKind.wrap
  simp [IntKind.signed, IntKind.bits]
  omega
/-- what the operations of 'l = append(append(..), ..)' yield -/
def DT (B r jj gd : Nat) (ids : List (Int × Int)) (i : Nat) (v v' : Value) (W : World) : Prop := match i with
  | 0 => ∃ g0, v = .slice (some ⟨g0, 0, none⟩) 0 0 ∧ W.ownsRow B 48 2 (.slice (some ⟨g0, 0, none⟩) 0 0) 0 []
  | 1 => v = .slice (some ⟨gd, 0, none⟩) ids.length r
  | 2 => v = .int .i64 jj
  | 3 => v = .slice (some ⟨gd, 0, none⟩) jj r
  | 4 => ∃ a c, v = .slice a (ids.take jj).length c ∧ OwnD W B (.slice a (ids.take jj).length c) (ids.take jj)
  | 5 => v = .slice (some ⟨gd, 0, none⟩) ids.length r
  | 6 => v = .int .i64 jj
  | 7 => v = .int .i64 ((jj : Int) + 1)
  | 8 => ∃ ao c, v = .slice ao (ids.length - (jj + 1)) c ∧ (0 < ids.length - (jj + 1) → ao = some ⟨gd, (jj + 1) * 2, none⟩)
  | 9 => ∃ a c, v = .slice a (ids.eraseIdx jj).length c ∧ OwnD W B (.slice a (ids.eraseIdx jj).length c) (ids.eraseIdx jj)
  | 10 => v = v'
  | _ => True
section
variable {B r jj gd : Nat} {ids : List (Int × Int)}
theorem DT.below {i : Nat} {v v' : Value} {W W' : World} (h : DT B r jj gd ids i v v' W) (hb : Below W.heap.size W W') : DT B r jj gd ids i v v' W' := by
  match i, h with
  | 0, ⟨g, h1, h2⟩ => exact ⟨g, h1, owns_below h2 hb (Nat.le_refl _)⟩
  | 1, h => exact h
  | 2, h => exact h
  | 3, h => exact h
  | 4, ⟨a, c, h1, h2⟩ => exact ⟨a, c, h1, h2.below hb⟩
  | 5, h => exact h
  | 6, h => exact h
  | 7, h => exact h
  | 8, h => exact h
  | 9, ⟨a, c, h1, h2⟩ => exact ⟨a, c, h1, h2.below hb⟩
  | 10, h => exact h
  | _ + 11, _ => trivial
/-- what tells nothing of memory stays -/
theorem DT.far {i : Nat} {v v' : Value} {W W' : World} (h : DT B r jj gd ids i v v' W) (h0 : i ≠ 0) (h4 : i ≠ 4) (h9 : i ≠ 9) : DT B r jj gd ids i v v' W' := by
  match i, h0, h4, h9, h with
  | 0, h0, _, _, _ => exact absurd rfl h0
  | 1, _, _, _, h => exact h
  | 2, _, _, _, h => exact h
  | 3, _, _, _, h => exact h
  | 4, _, h4, _, _ => exact absurd rfl h4
  | 5, _, _, _, h => exact h
  | 6, _, _, _, h => exact h
  | 7, _, _, _, h => exact h
  | 8, _, _, _, h => exact h
  | 9, _, _, h9, _ => exact absurd rfl h9
  | 10, _, _, _, h => exact h
  | _ + 11, _, _, _, _ => trivial
end
end Go.Proofs.Ytlcefgdiclpcjaa
