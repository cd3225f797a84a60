/- Texts joined: XKp. -/
import Derived.Test.YthaniopkpmhalaaDoorAc
import Derived.Test.YthaniopkpmhalaaDoorAg
import Derived.Deep.AppendLies
set_option maxRecDepth 4000
/- Layer 11: 'OrderKeeps': what its first loop's operations yield. -/
namespace Go.Proofs.YthaniopkpmhalaaDoor
open Go.RowKit Go.Bx Go.Od Go.Hp
set_option linter.unusedVariables false

/-- 'append' to a row of one's own: the row as it was is one's own still -/
theorem app_keep {P : Program} {w : World} {base : Nat} (t e : TypeId) (i : TypeInfo) (z : Value) (size bytes : Nat) (ht : P.underlying t = some (.slice e)) (hi : P.info? e = some i) (hz : i.zero = some z) (hsize : i.size = size) (hby : i.bytes = bytes) (hzs : z.cells.size = size) (hsz : 0 < size)
    (v : Value) (n : Nat) (xs : List Value) (hown : w.ownsRow base e size v n xs) (ad : Addr) (m c : Nat) (news : List Value) (hl : news.length = m * size) (hnews : ∀ j u, news[j]? = some u → w.cell? (ad.add j) = some u) (h1 : ∀ u ∈ news, u.oneCell' = true)
    (hm : 0 < m) (h63 : n + m ≤ maxLen) (hbytes : (n + m) * bytes ≤ 140737488355328) (hbase : base ≤ w.heap.size) :
    ∃ g cap w', (Builtin.append_ #[t, t] t #[v, .slice (some ad) m c]).run P w = .ok (.slice (some ⟨g, 0, none⟩) (n + m) cap) w' ∧ w'.ownsRow base e size (.slice (some ⟨g, 0, none⟩) (n + m) cap) (n + m) (xs ++ news) ∧ w'.ownsRow base e size v n xs ∧ w.grownBy w' v.ownBlock := by
  rcases hown.2 with ⟨rfl, rfl⟩ | ⟨g, cap, cur, rfl, hB, hb, hnc, hcm, hcs, htk⟩
  · obtain ⟨g, cap, w', hr, h2, h3, _, _⟩ := run_append_lies (P := P) w t t base e i z size bytes ht hi hz hsize hby hzs hsz _ 0 xs hown ad m c news hl hnews h1 hm h63 hbytes hbase _ rfl
    exact ⟨g, cap, w', hr, h2, ⟨hown.1, .inl ⟨rfl, rfl⟩⟩, h3⟩
  · by_cases hroom : n + m ≤ cap
    · obtain ⟨w', hr, h2, h3⟩ := run_append_fits (P := P) w base t t e i size ht hi hsize g n cap xs hown ad m c news hl hnews h1 hroom
      refine ⟨g, cap, w', hr, h2, ⟨hown.1, ?_⟩, h3⟩
      rcases h2.2 with ⟨h, _⟩ | ⟨g', cap', cur', h, hB', hb', hnc', hcm', hcs', htk'⟩
      · cases h
      · cases h
        refine .inr ⟨g, cap, cur', rfl, hB', hb', hnc, hcm', hcs', ?_⟩
        have e1 : (cur'.toList.take ((n + m) * size)).take (n * size) = (xs ++ news).take (n * size) := by rw [htk']
        rw [List.take_take, Nat.min_eq_left (Nat.mul_le_mul_right _ (Nat.le_add_right _ _)), List.take_append_of_le_length (by rw [hown.1]; exact Nat.le_refl _)] at e1
        exact e1.trans (List.take_of_length_le (by rw [hown.1]; exact Nat.le_refl _))
    · obtain ⟨v', w', hr, ho, hg⟩ := run_append_arg_grows (P := P) w t t e i z size bytes ht hi hz hsize hby hzs hsz ⟨g, 0, none⟩ n cap xs hown.1 (fun j u hj => by
        rw [Go.WideShapes.add_plain, Nat.zero_add]
        have hjl : j < xs.length := (List.getElem?_eq_some_iff.1 hj).1
        rw [World.ownsRow.cellAt hown j (by rw [← hown.1]; exact hjl), hj]) ad m c news hl hnews (by omega) h63 hbytes
      obtain ⟨g', c', rfl, hge, _⟩ := World.ownsRow.form ho (by omega)
      refine ⟨g', c', w', hr, ⟨ho.1, ?_⟩, World.ownsRow.kept hown hg (.inr (by simp [Value.ownBlock])), ⟨hg.os, hg.tape, hg.output, hg.size, fun k hk _ => hg.block k hk (by simp)⟩⟩
      rcases ho.2 with hn | ⟨g2, cap2, cur2, hv2, hB2, rest⟩
      · exact .inl hn
      · exact .inr ⟨g2, cap2, cur2, hv2, Nat.le_trans hbase hB2, rest⟩
/-- a row lies in no block of another type -/
theorem own_apart {w : World} {B s n g : Nat} {e t : TypeId} {v : Value} {xs : List Value} {cs : Array Value} {fz : Nat × Nat} (h : w.ownsRow B e s v n xs) (hg : w.heap[g]? = some (.cells cs t fz)) (ht : t ≠ e) : v.ownBlock ≠ some g := by
  intro hk
  rcases h.2 with ⟨rfl, _⟩ | ⟨g', cap, cur, rfl, _, hb, _⟩
  · cases hk
  · simp [Value.ownBlock] at hk
    subst hk
    rw [hg] at hb
    simp at hb
    exact ht hb.2.1
theorem own_sl_z {w : World} {B : Nat} {v : Value} {xs : List Int} (h : OwnP w B v xs) (hin : ∀ x ∈ xs, In64 x) : SlOf RInt 1 (· < w.heap.size) w v xs := by
  rcases h.form with ⟨rfl, rfl⟩ | ⟨g, cap, rfl, hB, hlt, hle, hcap, _, _, hc⟩
  · exact sl_nil _ _
  · refine ⟨_, cap, rfl, hle, hcap, .inr ⟨g, 0, rfl, hlt, fun i x hi => ?_⟩⟩
    obtain ⟨hil, hx⟩ := List.getElem?_eq_some_iff.1 hi
    refine ⟨[.int .i64 x], rfl, fun j u hu => ?_, rfl, hin x (List.mem_of_getElem? hi)⟩
    cases j with
    | zero =>
      simp at hu
      subst hu
      simp only [Nat.mul_one, Nat.zero_add, Nat.add_zero]
      rw [hc i hil]
      simp [hi]
    | succ j => simp at hu
/-- the cells of nodes whose rows are one's own -/
def NdR (W : World) (B : Nat) (cells : List Value) (nds : List Nd) : Prop :=
  cells.length = nds.length * 3 ∧ ∀ (j : Nat) (x : Nd), nds[j]? = some x → ∃ s t, cells[j * 3]? = some (.int .i64 x.op) ∧ cells[j * 3 + 1]? = some s ∧ cells[j * 3 + 2]? = some t ∧ OwnP W B s x.ins ∧ OwnP W B t x.p
theorem NdR.keep {W W' : World} {B : Nat} {cells : List Value} {nds : List Nd} (h : NdR W B cells nds) (hk : ∀ v xs, OwnP W B v xs → OwnP W' B v xs) : NdR W' B cells nds :=
  ⟨h.1, fun j x hj => by
    obtain ⟨s, t, h1, h2, h3, h4, h5⟩ := h.2 j x hj
    exact ⟨s, t, h1, h2, h3, hk _ _ h4, hk _ _ h5⟩⟩
theorem NdR.snoc {W : World} {B : Nat} {cells : List Value} {nds : List Nd} {x : Nd} {s t : Value} (h : NdR W B cells nds) (hs : OwnP W B s x.ins) (ht : OwnP W B t x.p) : NdR W B (cells ++ [.int .i64 x.op, s, t]) (nds ++ [x]) := by
  refine ⟨by simp [h.1]; omega, fun j y hj => ?_⟩
  by_cases hlt : j < nds.length
  · rw [List.getElem?_append_left hlt] at hj
    obtain ⟨s', t', h1, h2, h3, h4, h5⟩ := h.2 j y hj
    have hl := h.1
    exact ⟨s', t', by rw [List.getElem?_append_left (by omega)]; exact h1, by rw [List.getElem?_append_left (by omega)]; exact h2, by rw [List.getElem?_append_left (by omega)]; exact h3, h4, h5⟩
  · have hjl := (List.getElem?_eq_some_iff.1 hj).1
    simp at hjl
    have e : j = nds.length := by omega
    subst e
    rw [List.getElem?_append_right (Nat.le_refl _)] at hj
    simp at hj
    subst hj
    have hl := h.1
    exact ⟨s, t, by rw [List.getElem?_append_right (by omega), hl]; simp, by rw [List.getElem?_append_right (by omega), hl]; simp, by rw [List.getElem?_append_right (by omega), hl]; simp, hs, ht⟩
/-- all its numbers are 64 bits wide -/
def Nd64 (nds : List Nd) : Prop := ∀ x ∈ nds, In64 x.op ∧ (∀ y ∈ x.ins, In64 y) ∧ ∀ y ∈ x.p, In64 y
theorem Gr.nd64 {B : Nat} {w : World} {v : Value} {nds : List Nd} (h : Gr B w v nds) : Nd64 nds := by
  intro x hx
  obtain ⟨i, hi, rfl⟩ := List.mem_iff_getElem.1 hx
  obtain ⟨a, cap, hv, _, _, h3⟩ := h
  rcases h3 with h3 | ⟨b, o, _, _, h3⟩
  · subst h3; simp at hi
  · obtain ⟨cs, _, _, s, t, _, h4, h5, h6⟩ := h3 i nds[i] (List.getElem?_eq_getElem hi)
    obtain ⟨_, _, _, _, _, h7, _⟩ := h5.ints
    obtain ⟨_, _, _, _, _, h8, _⟩ := h6.ints
    exact ⟨h4, h7, h8⟩
theorem NdR.gr {W : World} {B : Nat} {cells : List Value} {nds : List Nd} {v : Value} (h : NdR W B cells nds) (hown : W.ownsRow B 44 3 v nds.length cells) (h64 : Nd64 nds) : Gr W.heap.size W v nds := by
  rcases hown.2 with ⟨rfl, h0⟩ | ⟨g, cap, cur, rfl, hB, hb, hnc, hcm, _⟩
  · exact ⟨none, 0, by rw [h0], by omega, by decide, .inl (List.eq_nil_of_length_eq_zero h0)⟩
  · refine ⟨_, cap, rfl, hnc, hcm, .inr ⟨g, 0, rfl, (Array.getElem?_eq_some_iff.1 hb).1, fun i x hi => ?_⟩⟩
    obtain ⟨s, t, h1, h2, h3, h4, h5⟩ := h.2 i x hi
    have hx := h64 x (List.mem_of_getElem? hi)
    have hil := (List.getElem?_eq_some_iff.1 hi).1
    refine ⟨[.int .i64 x.op, s, t], rfl, fun j u hu => ?_, s, t, rfl, hx.1, own_sl_z h4 hx.2.1, own_sl_z h5 hx.2.2⟩
    have hj : j < 3 := by have := (List.getElem?_eq_some_iff.1 hu).1; simpa using this
    rw [Nat.zero_add, World.ownsRow.cellAt hown (i * 3 + j) (by omega)]
    match j, hu with
    | 0, hu => simp at hu; subst hu; exact h1
    | 1, hu => simp at hu; subst hu; exact h2
    | 2, hu => simp at hu; subst hu; exact h3

/-- between the rounds that copy: was at block H -/
structure KI (w : World) (nv : Value) (out : Int) (H : Nat) (wv : Value) (cells : List Value) (nds : List Nd) (W : World) : Prop where
  gb : Box W w.heap.size [nv, .int .i64 out]
  hb : W.heap[H]? = some (.cells #[wv, .int .i64 out] 24 (0, 0))
  below : Below w.heap.size w W
  own : W.ownsRow (w.heap.size + 1) 44 3 wv nds.length cells
  inn : NdR W (w.heap.size + 1) cells nds
  ge : w.heap.size < H
section
variable {w W W' : World} {nv wv : Value} {out : Int} {H : Nat} {cells : List Value} {nds : List Nd}
theorem KI.box (h : KI w nv out H wv cells nds W) : Box W H [wv, .int .i64 out] := ⟨_, h.hb⟩
theorem KI.call (h : KI w nv out H wv cells nds W) (hb : Below W.heap.size W W') : KI w nv out H wv cells nds W' :=
  ⟨h.gb.call hb, (hb.block H (Array.getElem?_eq_some_iff.1 h.hb).1).trans h.hb, h.below.trans (hb.mono h.below.size), owns_below h.own hb (Nat.le_refl _), h.inn.keep fun v xs hv => hv.below hb, h.ge⟩
/-- ints' rows stay when nodes are appended -/
theorem KI.ints (h : KI w nv out H wv cells nds W) (hg : W.grownBy W' wv.ownBlock) {v : Value} {n : Nat} {xs : List Value} {B : Nat} (hv : W.ownsRow B 3 1 v n xs) : W'.ownsRow B 3 1 v n xs := World.ownsRow.kept hv hg (by
  cases e1 : v.ownBlock with
  | none => exact .inl rfl
  | some j => exact .inr fun e2 => rows_apart hv h.own (by decide) e1 e2.symm)
theorem KI.app (h : KI w nv out H wv cells nds W) (hg : W.grownBy W' wv.ownBlock) (hown : W'.ownsRow (w.heap.size + 1) 44 3 wv nds.length cells) : KI w nv out H wv cells nds W' := by
  have hge : ∀ k, wv.ownBlock = some k → w.heap.size + 1 ≤ k := fun k hk => (World.ownsRow.lt h.own k hk).1
  have hH := own_apart h.own h.hb (by decide)
  exact ⟨h.gb.grown' hg fun e => by have := hge _ e; omega, (hg.block H (Array.getElem?_eq_some_iff.1 h.hb).1 fun e => hH e.symm).trans h.hb, h.below.grown hg h.below.size fun k hk => by have := hge k hk; omega, hown, h.inn.keep fun v xs hv => h.ints hg hv, h.ge⟩
/-- once the new row is stored -/
theorem KI.done {x : Nd} {v s t : Value} (h : KI w nv out H wv cells nds W) (hown : W.ownsRow (w.heap.size + 1) 44 3 v (nds.length + 1) (cells ++ [.int .i64 x.op, s, t])) (hs : OwnP W (w.heap.size + 1) s x.ins) (ht : OwnP W (w.heap.size + 1) t x.p) :
    KI w nv out H v (cells ++ [.int .i64 x.op, s, t]) (nds ++ [x]) (W.setCell ⟨H, 0, none⟩ v) := by
  have hne : ∀ {e : TypeId} {sz n : Nat} {u : Value} {xs : List Value}, W.ownsRow (w.heap.size + 1) e sz u n xs → 24 ≠ e → (W.setCell ⟨H, 0, none⟩ v).ownsRow (w.heap.size + 1) e sz u n xs := fun {e sz n u xs} hu he => by
    have hap := own_apart hu h.hb he
    refine ⟨hu.1, ?_⟩
    rcases hu.2 with hn | ⟨g, cap, cur, rfl, hB, hb, rest⟩
    · exact .inl hn
    · refine .inr ⟨g, cap, cur, rfl, hB, ?_, rest⟩
      rw [Below.heap_setCell _ _ _ _ fun e => hap (by show some g = some H; rw [e])]
      exact hb
  refine ⟨h.gb.set (by have := h.ge; simp; omega) _, ?_, h.below.setCell (by have := h.ge; simp; omega) _, ?_, (h.inn.keep fun v xs hv => hne hv (by decide)).snoc (hne hs (by decide)) (hne ht (by decide)), h.ge⟩
  · simp [World.setCell, Array.getElem?_modify, h.hb]
  · rw [List.length_append, List.length_singleton]
    exact hne hown (by decide)
end
/-- what the operations of a round yield -/
def K7 (G H Bs n2 i b o : Nat) (wv gv iv pv : Value) (cells : List Value) (x : Nd) (j : Nat) (v : Value) (W : World) : Prop := match j with
  | 0 => v = .pointer (some ⟨H, 0, none⟩)
  | 1 => v = wv
  | 2 => v = .pointer (some ⟨G, 0, none⟩)
  | 3 => v = gv
  | 4 => v = .int .i64 i
  | 5 => v = .pointer (some ⟨b, o + i * 3, none⟩)
  | 6 => v = .pointer (some ⟨b, o + i * 3, none⟩)
  | 7 => v = .int .i64 x.op
  | 8 => ∃ g, v = .slice (some ⟨g, 0, none⟩) 0 0 ∧ W.ownsRow Bs 3 1 (.slice (some ⟨g, 0, none⟩) 0 0) 0 []
  | 9 => v = .pointer (some ⟨G, 0, none⟩)
  | 10 => v = gv
  | 11 => v = .int .i64 i
  | 12 => v = .pointer (some ⟨b, o + i * 3, none⟩)
  | 13 => v = .pointer (some ⟨b, o + i * 3 + 1, none⟩)
  | 14 => v = iv
  | 15 => OwnP W Bs v x.ins
  | 16 => ∃ g, v = .slice (some ⟨g, 0, none⟩) 0 0 ∧ W.ownsRow Bs 3 1 (.slice (some ⟨g, 0, none⟩) 0 0) 0 []
  | 17 => v = .pointer (some ⟨G, 0, none⟩)
  | 18 => v = gv
  | 19 => v = .int .i64 i
  | 20 => v = .pointer (some ⟨b, o + i * 3, none⟩)
  | 21 => v = .pointer (some ⟨b, o + i * 3 + 2, none⟩)
  | 22 => v = pv
  | 23 => OwnP W Bs v x.p
  | 24 => ∃ s t, v = .agg #[.int .i64 x.op, s, t] ∧ OwnP W Bs s x.ins ∧ OwnP W Bs t x.p
  | 25 => ∃ g s t, v = .slice (some ⟨g, 0, none⟩) 1 1 ∧ n2 ≤ g ∧ W.heap[g]? = some (.cells #[.int .i64 x.op, s, t] 44 (0, 0)) ∧ OwnP W Bs s x.ins ∧ OwnP W Bs t x.p
  | 26 => ∃ g c s t, v = .slice (some ⟨g, 0, none⟩) (i + 1) c ∧ W.ownsRow Bs 44 3 (.slice (some ⟨g, 0, none⟩) (i + 1) c) (i + 1) (cells ++ [.int .i64 x.op, s, t]) ∧ OwnP W Bs s x.ins ∧ OwnP W Bs t x.p
  | 27 => v = .pointer (some ⟨H, 0, none⟩)
  | _ => True
theorem K7.keep {G H Bs n2 i b o : Nat} {wv gv iv pv : Value} {cells : List Value} {x : Nd} {j : Nat} {v : Value} {W W' : World} (h : K7 G H Bs n2 i b o wv gv iv pv cells x j v W) (h1 : ∀ (v : Value) (n : Nat) (xs : List Value), W.ownsRow Bs 3 1 v n xs → W'.ownsRow Bs 3 1 v n xs)
    (h2 : ∀ g cs, n2 ≤ g → W.heap[g]? = some (.cells cs 44 (0, 0)) → W'.heap[g]? = some (.cells cs 44 (0, 0))) (h3 : j = 26 → ∀ (v : Value) (n : Nat) (xs : List Value), W.ownsRow Bs 44 3 v n xs → W'.ownsRow Bs 44 3 v n xs) : K7 G H Bs n2 i b o wv gv iv pv cells x j v W' := by
  match j, h with
  | 0, h => exact h
  | 1, h => exact h
  | 2, h => exact h
  | 3, h => exact h
  | 4, h => exact h
  | 5, h => exact h
  | 6, h => exact h
  | 7, h => exact h
  | 8, ⟨g, a, c⟩ => exact ⟨g, a, h1 _ _ _ c⟩
  | 9, h => exact h
  | 10, h => exact h
  | 11, h => exact h
  | 12, h => exact h
  | 13, h => exact h
  | 14, h => exact h
  | 15, h => exact h1 _ _ _ h
  | 16, ⟨g, a, c⟩ => exact ⟨g, a, h1 _ _ _ c⟩
  | 17, h => exact h
  | 18, h => exact h
  | 19, h => exact h
  | 20, h => exact h
  | 21, h => exact h
  | 22, h => exact h
  | 23, h => exact h1 _ _ _ h
  | 24, ⟨s, t, a, c, d⟩ => exact ⟨s, t, a, h1 _ _ _ c, h1 _ _ _ d⟩
  | 25, ⟨g, s, t, a, c, d, e, f⟩ => exact ⟨g, s, t, a, c, h2 _ _ c d, h1 _ _ _ e, h1 _ _ _ f⟩
  | 26, ⟨g, c, s, t, a, d, e, f⟩ => exact ⟨g, c, s, t, a, h3 rfl _ _ _ d, h1 _ _ _ e, h1 _ _ _ f⟩
  | 27, h => exact h
  | _ + 28, _ => trivial
theorem K7.below {G H Bs n2 i b o : Nat} {wv gv iv pv : Value} {cells : List Value} {x : Nd} {j : Nat} {v : Value} {W W' : World} (h : K7 G H Bs n2 i b o wv gv iv pv cells x j v W) (hb : Below W.heap.size W W') : K7 G H Bs n2 i b o wv gv iv pv cells x j v W' :=
  h.keep (fun v n xs hv => owns_below hv hb (Nat.le_refl _)) (fun g cs _ hg => (hb.block g (Array.getElem?_eq_some_iff.1 hg).1).trans hg) fun _ v n xs hv => owns_below hv hb (Nat.le_refl _)
end Go.Proofs.YthaniopkpmhalaaDoor
