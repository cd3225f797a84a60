/- Layer 11: a graph's nodes copied. -/
import Derived.Test.YtfjeohnigikmoaaDoorGa
import Derived.Test.YtfjeohnigikmoaaDoorMono
import Derived.ArgAppend
namespace Go.Proofs.YtfjeohnigikmoaaDoor
open Go.RowKit Go.Bx Go.Od Go.Hp
set_option linter.unusedVariables false

/-- nodes in block g from its start on, their rows in blocks below B -/
def GcAt (B : Nat) (W : World) (g : Nat) (nds : List Nd) : Prop :=
  ∀ (i : Nat) (x : Nd), nds[i]? = some x → ∃ s t, LiesAt W g (i * 3) [.int .i64 x.op, s, t] ∧ In64 x.op ∧ SlOf RInt 1 (· < B) W s x.ins ∧ SlOf RInt 1 (· < B) W t x.p
theorem GcAt.gr {B C : Nat} {W : World} {g cap : Nat} {nds : List Nd} (h : GcAt B W g nds) (hB : B ≤ C) (hg : g < C) (h1 : nds.length ≤ cap) (h2 : cap ≤ maxLen) : Gr C W (.slice (some ⟨g, 0, none⟩) nds.length cap) nds := by
  refine ⟨_, cap, rfl, h1, h2, .inr ⟨g, 0, rfl, hg, fun i x hi => ?_⟩⟩
  obtain ⟨s, t, hl, ho, h3, h4⟩ := h i x hi
  exact ⟨_, rfl, by rw [Nat.zero_add]; exact hl, s, t, rfl, ho, SlOf.in_lt h3 hB, SlOf.in_lt h4 hB⟩
theorem LiesAt.below {C : Nat} {W W' : World} {g o : Nat} {cs : List Value} (h : LiesAt W g o cs) (hb : Below C W W') (hg : g < C) : LiesAt W' g o cs := fun j u hu => (hb.cell (p := ⟨g, o + j, none⟩) hg).trans (h j u hu)
theorem GcAt.below {B C : Nat} {W W' : World} {g : Nat} {nds : List Nd} (h : GcAt B W g nds) (hb : Below C W W') (hB : B ≤ C) (hg : g < C) : GcAt B W' g nds := fun i x hi => by
  obtain ⟨s, t, hl, ho, h3, h4⟩ := h i x hi
  exact ⟨s, t, LiesAt.below hl hb hg, ho, sl_below h3 (hb.mono hB), sl_below h4 (hb.mono hB)⟩
theorem sl_set {B : Nat} {W : World} {v : Value} {xs : List Int} (h : SlOf RInt 1 (· < B) W v xs) {p : Addr} (hp : B ≤ p.block) (u : Value) : SlOf RInt 1 (· < B) (W.setCell p u) v xs :=
  SlOf.same RInt.ok (fun b hb => Below.heap_setCell _ _ _ _ (by have : b < B := hb; omega)) h
/-- one node's inputs are struck -/
theorem GcAt.strike {B : Nat} {W : World} {g : Nat} {nds : List Nd} (h : GcAt B W g nds) (hB : B ≤ g) (k : Nat) : GcAt B (W.setCell ⟨g, k * 3 + 1, none⟩ (.slice none 0 0)) g (nds.set k { nds.getD k Nd.none with ins := [] }) := fun i x hi => by
  by_cases e : i = k
  · subst e
    have hlt : i < nds.length := by have := (List.getElem?_eq_some_iff.1 hi).1; simpa using this
    have hx : x = { nds.getD i Nd.none with ins := [] } := by simpa [hlt] using hi.symm
    subst hx
    obtain ⟨s, t, hl, ho, h3, h4⟩ := h i (nds.getD i Nd.none) (by simp [hlt])
    refine ⟨.slice none 0 0, t, fun j u hu => ?_, ho, sl_nil _ _, sl_set h4 hB _⟩
    match j, hu with
    | 0, hu => rw [World.cell?_setCell_other _ ⟨g, i * 3 + 1, none⟩ ⟨g, i * 3 + 0, none⟩ _ (by simp)]; exact hl 0 _ (by simpa using hu)
    | 1, hu =>
      simp at hu
      subst hu
      have h1 := hl 1 s rfl
      exact World.cell?_setCell_same _ _ _ (by first | exact h1 | (rw [h1]; rfl) | simp [h1])
    | 2, hu => rw [World.cell?_setCell_other _ ⟨g, i * 3 + 1, none⟩ ⟨g, i * 3 + 2, none⟩ _ (by simp)]; exact hl 2 _ (by simpa using hu)
    | j + 3, hu => simp at hu
  · rw [List.getElem?_set_ne (fun h => e h.symm)] at hi
    obtain ⟨s, t, hl, ho, h3, h4⟩ := h i x hi
    refine ⟨s, t, fun j u hu => ?_, ho, sl_set h3 hB _, sl_set h4 hB _⟩
    have hj : j < 3 := by have := (List.getElem?_eq_some_iff.1 hu).1; simpa using this
    rw [World.cell?_setCell_other _ ⟨g, k * 3 + 1, none⟩ ⟨g, i * 3 + j, none⟩ _ (fun h => by have := congrArg Addr.off h; simp at this; omega)]
    exact hl j u hu
/-- the cells of a graph's nodes, and what a row of just these cells is -/
theorem Gr.cells {B : Nat} {w : World} {a : Option Addr} {n c : Nat} {nds : List Nd} (h : Gr B w (.slice a n c) nds) (hn : n = nds.length) : ∃ news : List Value, news.length = n * 3 ∧ (∀ b, a = some b → ∀ j u, news[j]? = some u → w.cell? (b.add j) = some u) ∧ (∀ u ∈ news, u.oneCell' = true) ∧ (a = none → n = 0) ∧
    ∀ (W : World) (base g c' : Nat), W.ownsRow base 39 3 (.slice (some ⟨g, 0, none⟩) n c') n news → Below B w W → GcAt B W g nds := by
  subst hn
  have hall : ∀ i, i < nds.length → ∃ b o, a = some ⟨b, o, none⟩ ∧ ∃ s t, w.cell? ⟨b, o + i * 3, none⟩ = some (.int .i64 (nds.getD i Nd.none).op) ∧ w.cell? ⟨b, o + i * 3 + 1, none⟩ = some s ∧ w.cell? ⟨b, o + i * 3 + 2, none⟩ = some t ∧ s.oneCell' = true ∧ t.oneCell' = true ∧
      SlOf RInt 1 (· < B) w s (nds.getD i Nd.none).ins ∧ SlOf RInt 1 (· < B) w t (nds.getD i Nd.none).p ∧ In64 (nds.getD i Nd.none).op := by
    intro i hi
    obtain ⟨a', cap, hv, _, _, h3⟩ := h
    simp only [Value.slice.injEq] at hv
    obtain ⟨rfl, _, _⟩ := hv
    rcases h3 with h3 | ⟨b, o, rfl, hF, h3⟩
    · subst h3; simp at hi
    · obtain ⟨cs, hl, hc, sa, sb, rfl, hin, s1, s2⟩ := h3 i (nds.getD i Nd.none) (by simp [hi])
      have e1 : sa.oneCell' = true := by obtain ⟨_, _, rfl, _⟩ := s1; rfl
      have e2 : sb.oneCell' = true := by obtain ⟨_, _, rfl, _⟩ := s2; rfl
      exact ⟨b, o, rfl, sa, sb, hc 0 _ rfl, hc 1 _ rfl, hc 2 _ rfl, e1, e2, s1, s2, hin⟩
  cases a with
  | none =>
    have h0 : nds.length = 0 := by
      by_cases h0 : nds.length = 0
      · exact h0
      · obtain ⟨b, o, e, _⟩ := hall 0 (by omega)
        cases e
    refine ⟨[], by rw [h0]; rfl, (fun b e => by cases e), (fun u hu => by cases hu), (fun _ => h0), fun W base g c' _ _ i x hi => ?_⟩
    have := (List.getElem?_eq_some_iff.1 hi).1
    omega
  | some ad =>
    by_cases h0 : nds.length = 0
    · refine ⟨[], by rw [h0]; rfl, (fun b e j u hu => by simp at hu), (fun u hu => by cases hu), (fun e => by cases e), fun W base g c' _ _ i x hi => ?_⟩
      have := (List.getElem?_eq_some_iff.1 hi).1
      omega
    · obtain ⟨b, o, e, _⟩ := hall 0 (by omega)
      cases e
      have hsome : ∀ j, j < nds.length * 3 → ∃ u, w.cell? ⟨b, o + j, none⟩ = some u ∧ u.oneCell' = true := by
        intro j hj
        obtain ⟨b', o', e, s, t, k0, k1, k2, e1, e2, _⟩ := hall (j / 3) (by omega)
        cases e
        have hr : j % 3 = 0 ∨ j % 3 = 1 ∨ j % 3 = 2 := by omega
        rcases hr with hr | hr | hr
        · exact ⟨_, by rw [show o + j = o + j / 3 * 3 by omega]; exact k0, rfl⟩
        · exact ⟨_, by rw [show o + j = o + j / 3 * 3 + 1 by omega]; exact k1, e1⟩
        · exact ⟨_, by rw [show o + j = o + j / 3 * 3 + 2 by omega]; exact k2, e2⟩
      have hget : ∀ j u, ((List.range (nds.length * 3)).map fun j => (w.cell? ⟨b, o + j, none⟩).getD undef)[j]? = some u → j < nds.length * 3 ∧ w.cell? ⟨b, o + j, none⟩ = some u := by
        intro j u hu
        have hj : j < nds.length * 3 := by have := (List.getElem?_eq_some_iff.1 hu).1; simpa using this
        obtain ⟨v, hv, _⟩ := hsome j hj
        refine ⟨hj, ?_⟩
        simp [hj, hv] at hu
        rw [hv, hu]
      refine ⟨(List.range (nds.length * 3)).map fun j => (w.cell? ⟨b, o + j, none⟩).getD undef, by simp, fun bb e j u hu => ?_, fun u hu => ?_, (fun e => by cases e), fun W base g c' hown hb i x hi => ?_⟩
      · cases e
        rw [Go.WideShapes.add_plain]
        exact (hget j u hu).2
      · obtain ⟨j, hj, rfl⟩ := List.mem_map.1 hu
        obtain ⟨v, hv, h1⟩ := hsome j (List.mem_range.1 hj)
        rw [hv]
        exact h1
      · obtain ⟨hil, hx⟩ := List.getElem?_eq_some_iff.1 hi
        have hx' : nds.getD i Nd.none = x := by simp [hil, hx]
        obtain ⟨b', o', e, s, t, k0, k1, k2, _, _, s1, s2, hin⟩ := hall i hil
        cases e
        rw [hx'] at k0 s1 s2 hin
        refine ⟨s, t, fun j u hu => ?_, hin, sl_below s1 hb, sl_below s2 hb⟩
        have hj : j < 3 := by have := (List.getElem?_eq_some_iff.1 hu).1; simpa using this
        have h1 := World.ownsRow.cellAt hown (i * 3 + j) (by omega)
        rw [h1]
        have h2 : w.cell? ⟨b, o + (i * 3 + j), none⟩ = some u := by
          match j, hu with
          | 0, hu => simp at hu; subst hu; exact k0
          | 1, hu => simp at hu; subst hu; exact k1
          | 2, hu => simp at hu; subst hu; exact k2
        simp [show i * 3 + j < nds.length * 3 by omega, h2]
/-- 'append' to an empty row: a copy -/
theorem app_copy {P : Program} {w : World} {B : Nat} (t e : TypeId) (i : TypeInfo) (z : Value) (size bytes : Nat) (ht : P.underlying t = some (.slice e)) (hi : P.info? e = some i) (hz : i.zero = some z) (hsize : i.size = size) (hby : i.bytes = bytes) (hzs : z.cells.size = size) (hpos : 0 < size)
    {g : Nat} (hv : w.ownsRow B e size (.slice (some ⟨g, 0, none⟩) 0 0) 0 []) (a : Option Addr) (m c : Nat) (news : List Value) (hl : news.length = m * size) (hnews : ∀ b, a = some b → ∀ j u, news[j]? = some u → w.cell? (b.add j) = some u) (h1 : ∀ u ∈ news, u.oneCell' = true)
    (hnone : a = none → m = 0) (hm0 : 0 < m) (h63 : m ≤ maxLen) (hbytes : m * bytes ≤ 140737488355328) (hB : B ≤ w.heap.size) :
    ∃ g' c' w', (Builtin.append_ #[t, t] t #[.slice (some ⟨g, 0, none⟩) 0 0, .slice a m c]).run P w = .ok (.slice (some ⟨g', 0, none⟩) m c') w' ∧ w'.ownsRow B e size (.slice (some ⟨g', 0, none⟩) m c') m news ∧ Below w.heap.size w w' ∧ w.heap.size ≤ g' := by
  obtain ⟨ad, rfl⟩ : ∃ ad, a = some ad := by
    cases a with
    | none => exact absurd (hnone rfl) (by omega)
    | some ad => exact ⟨ad, rfl⟩
  obtain ⟨v', w', hr, ho, hg⟩ := run_append_arg_grows (P := P) w t t e i z size bytes ht hi hz hsize hby hzs hpos ⟨g, 0, none⟩ 0 0 [] (by simp) (by simp) ad m c news hl (hnews ad rfl) (by omega) (by omega) (by rw [Nat.zero_add]; exact hbytes)
  rw [Nat.zero_add, List.nil_append] at ho
  obtain ⟨g', c', rfl, _, _⟩ := World.ownsRow.form ho (by omega)
  have hge := (World.ownsRow.lt ho g' rfl).1
  refine ⟨g', c', w', hr, ⟨ho.1, ?_⟩, (Below.refl _ w).grown hg (Nat.le_refl _) (fun k hk => by cases hk), hge⟩
  rcases ho.2 with hn | ⟨g2, cap, cur, hv', hB', rest⟩
  · exact .inl hn
  · exact .inr ⟨g2, cap, cur, hv', Nat.le_trans hB hB', rest⟩
theorem infoN : (Tryd.prog.info? 39).map (fun i => (i.zero, i.size, i.bytes)) = some (some (.agg #[.int .i64 0, .slice none 0 0, .slice none 0 0]), 3, 56) := by kernel_rfl
end Go.Proofs.YtfjeohnigikmoaaDoor
