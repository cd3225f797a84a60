/- Layer 22: rows of names in memory; what stands in memory while names come and go. -/
import Derived.Test.YtlcefgdiclpcjaaStL
import Derived.Test.YtlcefgdiclpcjaaArS
import Derived.Test.YtlcefgdiclpcjaaArN
namespace Go.Proofs.Ytlcefgdiclpcjaa
open Go.RowKit Go.Bx
set_option linter.unusedVariables false

def idCells (ids : List (Int × Int)) : List Value := ids.flatMap fun x => [.int .i64 x.1, .int .i64 x.2]
theorem idCells_len (ids : List (Int × Int)) : (idCells ids).length = ids.length * 2 := by
  induction ids with
  | nil => rfl
  | cons x ids ih => simp only [idCells, List.flatMap_cons, List.length_append, List.length_cons, List.length_nil] at ih ⊢; omega
theorem idCells_app (xs ys : List (Int × Int)) : idCells (xs ++ ys) = idCells xs ++ idCells ys := by simp [idCells]
theorem idCells_get (ids : List (Int × Int)) : ∀ (j : Nat) (x : Int × Int), ids[j]? = some x → (idCells ids)[j * 2]? = some (.int .i64 x.1) ∧ (idCells ids)[j * 2 + 1]? = some (.int .i64 x.2) := by
  induction ids with
  | nil => intro j x h; simp at h
  | cons y ids ih =>
    intro j x h
    cases j with
    | zero => simp at h; subst h; exact ⟨rfl, rfl⟩
    | succ j =>
      have h1 : ids[j]? = some x := by simpa using h
      have e : idCells (y :: ids) = .int .i64 y.1 :: .int .i64 y.2 :: idCells ids := rfl
      rw [e, show (j + 1) * 2 = j * 2 + 1 + 1 by omega, show j * 2 + 1 + 1 + 1 = j * 2 + 1 + 1 + 1 from rfl]
      simp only [List.getElem?_cons_succ]
      exact ih j x h1
theorem idCells_drop (ids : List (Int × Int)) (k : Nat) : (idCells ids).drop (k * 2) = idCells (ids.drop k) := by
  induction ids generalizing k with
  | nil => simp [idCells]
  | cons y ids ih =>
    cases k with
    | zero => rfl
    | succ k =>
      have e : idCells (y :: ids) = .int .i64 y.1 :: .int .i64 y.2 :: idCells ids := rfl
      rw [e, show (k + 1) * 2 = k * 2 + 1 + 1 by omega]
      simp only [List.drop_succ_cons]
      exact ih k
theorem idCells_take (ids : List (Int × Int)) (k : Nat) : (idCells ids).take (k * 2) = idCells (ids.take k) := by
  induction ids generalizing k with
  | nil => simp [idCells]
  | cons y ids ih =>
    cases k with
    | zero => simp [idCells]
    | succ k =>
      have e : idCells (y :: ids) = .int .i64 y.1 :: .int .i64 y.2 :: idCells ids := rfl
      have e2 : idCells (y :: ids.take k) = .int .i64 y.1 :: .int .i64 y.2 :: idCells (ids.take k) := rfl
      rw [e, show (k + 1) * 2 = k * 2 + 1 + 1 by omega]
      simp only [List.take_succ_cons]
      rw [ih k, e2]
theorem idCells_one {ids : List (Int × Int)} : ∀ u ∈ idCells ids, u.oneCell' = true := by
  intro u hu
  unfold idCells at hu
  rw [List.mem_flatMap] at hu
  obtain ⟨x, _, hu⟩ := hu
  simp at hu
  rcases hu with rfl | rfl <;> rfl

def OwnD (w : World) (B : Nat) (v : Value) (ids : List (Int × Int)) : Prop := w.ownsRow B 48 2 v ids.length (idCells ids)
theorem infoD : (Try.prog.info? 48).map (fun i => (i.zero, i.size, i.bytes)) = some (some (.agg #[.int .i64 0, .int .i64 0]), 2, 16) := by kernel_rfl
section
variable {w w' : World} {B : Nat} {v : Value} {ids : List (Int × Int)}
theorem OwnD.below (h : OwnD w B v ids) (hb : Below w.heap.size w w') : OwnD w' B v ids := owns_below h hb (Nat.le_refl _)
theorem OwnD.alloc (h : OwnD w B v ids) (o : Obj) : OwnD (w.alloc o) B v ids := World.ownsRow.alloc h o
theorem OwnD.put' {a : Option Addr} {n cap : Nat} (h : OwnD w B (.slice a n cap) ids) {p : Addr} (hp : ∀ x, a = some x → x.block ≠ p.block) (u : Value) : OwnD (w.setCell p u) B (.slice a n cap) ids :=
  ownsRow_setCell_other h (by cases a with
    | none => simp [Value.ownBlock]
    | some x => simp [Value.ownBlock]; exact hp x rfl) u
theorem OwnD.form (h : OwnD w B v ids) : (v = .slice none 0 0 ∧ ids = []) ∨ ∃ g cap, v = .slice (some ⟨g, 0, none⟩) ids.length cap ∧ B ≤ g ∧ g < w.heap.size ∧ ids.length ≤ cap ∧ cap ≤ maxLen ∧
    (∃ cur, w.heap[g]? = some (.cells cur 48 (0, 0))) ∧ ∀ j, j < ids.length * 2 → w.cell? ⟨g, j, none⟩ = (idCells ids)[j]? := by
  have h' : w.ownsRow B 48 2 v ids.length (idCells ids) := h
  rcases h'.2 with ⟨hv, hn⟩ | ⟨g, cap, cur, hv, hB, hblk, hle, hcap, hsz, htk⟩
  · exact .inl ⟨hv, List.eq_nil_of_length_eq_zero hn⟩
  · subst hv
    refine .inr ⟨g, cap, rfl, hB, (Array.getElem?_eq_some_iff.1 hblk).1, hle, hcap, ⟨cur, hblk⟩, fun j hj => World.ownsRow.cellAt h' j hj⟩
theorem OwnD.nil (w : World) (B : Nat) : OwnD w B (.slice none 0 0) [] := World.ownsRow_nil _ _ _ _
theorem OwnD.isSl (h : OwnD w B v ids) : ∃ a cap, v = .slice a ids.length cap := by
  rcases h.form with ⟨rfl, rfl⟩ | ⟨g, cap, rfl, _⟩
  · exact ⟨none, 0, rfl⟩
  · exact ⟨_, cap, rfl⟩
theorem OwnD.off {a : Option Addr} {n c g : Nat} {cs : Array Value} {t : TypeId} (h : OwnD w B (.slice a n c) ids) (hg : w.heap[g]? = some (.cells cs t (0, 0))) (ht : 48 ≠ t) : ∀ x, a = some x → x.block ≠ g := by
  rintro x rfl rfl
  rcases h.form with ⟨h1, _⟩ | ⟨g, cap, h1, _, _, _, _, ⟨cur, hc⟩, _⟩
  · cases h1
  · cases h1
    rw [hg] at hc
    simp at hc
    exact ht hc.2.symm
end

/-- what stands in memory while names come and go -/
def SI (w : World) (nb : Nat) (gv lv x y sG sL : Value) (G : List Int) (L : List Bool) (sl : Value) (ids : List (Int × Int)) (W : World) : Prop :=
  Box W w.heap.size [gv, lv] ∧ Box W (w.heap.size + 1) [x, y] ∧ W.heap[nb]? = some (.cells #[sG, sL] 46 (0, 0)) ∧ w.heap.size + 2 ≤ nb ∧ OwnI W (w.heap.size + 2) sG G ∧ OwnB W (w.heap.size + 2) sL L ∧ OwnD W (w.heap.size + 2) sl ids ∧ Below w.heap.size w W
section
variable {w : World} {nb : Nat} {gv lv x y sG sL sl : Value} {G : List Int} {L : List Bool} {ids : List (Int × Int)} {W : World}
theorem SI.box (h : SI w nb gv lv x y sG sL G L sl ids W) : Box W nb [sG, sL] := ⟨_, h.2.2.1⟩
theorem SI.below {W' : World} (h : SI w nb gv lv x y sG sL G L sl ids W) (hb : Below W.heap.size W W') : SI w nb gv lv x y sG sL G L sl ids W' := by
  obtain ⟨h1, h2, h3, h4, h5, h6, h7, h8⟩ := h
  exact ⟨h1.call hb, h2.call hb, (hb.block nb (Array.getElem?_eq_some_iff.1 h3).1).trans h3, h4, h5.below hb, h6.below hb, h7.below hb, after h8 h8.size hb⟩
theorem SI.alloc (h : SI w nb gv lv x y sG sL G L sl ids W) (o : Obj) : SI w nb gv lv x y sG sL G L sl ids (W.alloc o) := h.below ((Below.refl _ W).alloc (Nat.le_refl _) o)
theorem SI.drewN (h : SI w nb gv lv x y sG sL G L sl ids W) (n : Nat) : SI w nb gv lv x y sG sL G L sl ids (W.drewN n) := h.below (below_drewN (Below.refl _ W) n)
theorem SI.size (h : SI w nb gv lv x y sG sL G L sl ids W) : w.heap.size + 2 ≤ W.heap.size := by
  have := (Array.getElem?_eq_some_iff.1 h.2.2.1).1
  have := h.2.2.2.1
  omega
theorem SI.ar (h : SI w nb gv lv x y sG sL G L sl ids W) (hin : ∀ x ∈ G, In64 x) : Ar W sG sL G L := ⟨own_slI h.2.2.2.2.1 hin, own_slB h.2.2.2.2.2.1⟩
/-- another arena in the box -/
theorem SI.setB {a b d : Option Addr} {n m p q k r : Nat} {G' : List Int} {L' : List Bool} (h : SI w nb gv lv x y sG sL G L (.slice d k r) ids W) (h1 : OwnI W (w.heap.size + 2) (.slice a n p) G') (h2 : OwnB W (w.heap.size + 2) (.slice b m q) L') :
    SI w nb gv lv x y (.slice a n p) (.slice b m q) G' L' (.slice d k r) ids ((W.setCell ⟨nb, 0, none⟩ (.slice a n p)).setCell ⟨nb, 1, none⟩ (.slice b m q)) := by
  obtain ⟨k1, k2, k3, k4, k5, k6, k7, k8⟩ := h
  refine ⟨(k1.set (p := ⟨nb, 0, none⟩) (by simp only; omega) _).set (p := ⟨nb, 1, none⟩) (by simp only; omega) _, (k2.set (p := ⟨nb, 0, none⟩) (by simp only; omega) _).set (p := ⟨nb, 1, none⟩) (by simp only; omega) _, ?_, k4,
    (h1.put' (p := ⟨nb, 0, none⟩) (own_offI h1 k3 (by decide)) _).put' (p := ⟨nb, 1, none⟩) (own_offI h1 k3 (by decide)) _, (h2.put' (p := ⟨nb, 0, none⟩) (own_offB h2 k3 (by decide)) _).put' (p := ⟨nb, 1, none⟩) (own_offB h2 k3 (by decide)) _,
    (k7.put' (p := ⟨nb, 0, none⟩) (k7.off k3 (by decide)) _).put' (p := ⟨nb, 1, none⟩) (k7.off k3 (by decide)) _, (k8.setCell (p := ⟨nb, 0, none⟩) (by simp only; omega) _).setCell (p := ⟨nb, 1, none⟩) (by simp only; omega) _⟩
  simp [World.setCell, Array.getElem?_modify, k3]
/-- another row of names -/
theorem SI.app {W' : World} {sl' : Value} {ids' : List (Int × Int)} (h : SI w nb gv lv x y sG sL G L sl ids W) (hg : W.grownBy W' sl.ownBlock) (ho : OwnD W' (w.heap.size + 2) sl' ids') : SI w nb gv lv x y sG sL G L sl' ids' W' := by
  obtain ⟨k1, k2, k3, k4, k5, k6, k7, k8⟩ := h
  have hlt : ∀ k, sl.ownBlock = some k → w.heap.size + 2 ≤ k := fun k hk => (World.ownsRow.lt k7 k hk).1
  have hne : ∀ g, sl.ownBlock = some g → ∃ cur, W.heap[g]? = some (.cells cur 48 (0, 0)) := by
    intro g hg
    rcases k7.form with ⟨rfl, _⟩ | ⟨g', cap, rfl, _, _, _, _, ⟨cur, hc⟩, _⟩
    · simp [Value.ownBlock] at hg
    · simp [Value.ownBlock] at hg; subst hg; exact ⟨cur, hc⟩
  have b3 : Box W nb [sG, sL] := ⟨_, k3⟩
  refine ⟨k1.grown' hg (fun hc => by have := hlt _ hc; omega), k2.grown' hg (fun hc => by have := hlt _ hc; omega), ?_, k4, ?_, ?_, ho, k8.grown hg k8.size (fun k hk => by have := hlt _ hk; omega)⟩
  · have hn : sl.ownBlock ≠ some nb := by
      intro e
      obtain ⟨cur, hc⟩ := hne nb e
      rw [k3] at hc
      simp at hc
    have hlt2 : nb < W.heap.size := (Array.getElem?_eq_some_iff.1 k3).1
    exact (hg.block nb hlt2 fun hc => hn hc.symm).trans k3
  · refine World.ownsRow.kept k5 hg ?_
    rcases k5.form with ⟨rfl, _⟩ | ⟨g2, cap2, rfl, _, _, _, _, ⟨cur, hc⟩, _⟩
    · exact .inl rfl
    · right
      intro e
      obtain ⟨cur', hc'⟩ := hne g2 e.symm
      rw [hc] at hc'
      simp at hc'
  · refine World.ownsRow.kept k6 hg ?_
    rcases k6.form with ⟨rfl, _⟩ | ⟨g2, cap2, rfl, _, _, _, _, ⟨cur, hc⟩, _⟩
    · exact .inl rfl
    · right
      intro e
      obtain ⟨cur', hc'⟩ := hne g2 e.symm
      rw [hc] at hc'
      simp at hc'
end
theorem row_ne {W : World} {B : Nat} {sl : Value} {ids : List (Int × Int)} (h : OwnD W B sl ids) {g : Nat} {cs : Array Value} {t : TypeId} (hg : W.heap[g]? = some (.cells cs t (0, 0))) (ht : 48 ≠ t) : sl.ownBlock ≠ some g := by
  intro e
  rcases h.form with ⟨rfl, _⟩ | ⟨g', cap, rfl, _, _, _, _, ⟨cur, hc⟩, _⟩
  · simp [Value.ownBlock] at e
  · simp [Value.ownBlock] at e
    subst e
    rw [hg] at hc
    simp at hc
    exact ht hc.2.symm
/-- the arena just answered, in its box -/
def SJ (w : World) (nc : Nat) (sG sL : Value) (G : List Int) (L : List Bool) (W : World) : Prop := W.heap[nc]? = some (.cells #[sG, sL] 46 (0, 0)) ∧ OwnI W (w.heap.size + 2) sG G ∧ OwnB W (w.heap.size + 2) sL L
section
variable {w : World} {nc : Nat} {sG sL sl : Value} {G : List Int} {L : List Bool} {ids : List (Int × Int)} {W W' : World}
theorem SJ.box (h : SJ w nc sG sL G L W) : Box W nc [sG, sL] := ⟨_, h.1⟩
theorem SJ.below (h : SJ w nc sG sL G L W) (hb : Below W.heap.size W W') : SJ w nc sG sL G L W' := ⟨(hb.block nc (Array.getElem?_eq_some_iff.1 h.1).1).trans h.1, h.2.1.below hb, h.2.2.below hb⟩
theorem SJ.alloc (h : SJ w nc sG sL G L W) (o : Obj) : SJ w nc sG sL G L (W.alloc o) := h.below ((Below.refl _ W).alloc (Nat.le_refl _) o)
theorem SJ.app (h : SJ w nc sG sL G L W) (k : OwnD W (w.heap.size + 2) sl ids) (hg : W.grownBy W' sl.ownBlock) : SJ w nc sG sL G L W' := by
  obtain ⟨h1, h2, h3⟩ := h
  refine ⟨(hg.block nc (Array.getElem?_eq_some_iff.1 h1).1 fun hc => row_ne k h1 (by decide) hc.symm).trans h1, World.ownsRow.kept h2 hg ?_, World.ownsRow.kept h3 hg ?_⟩
  · rcases h2.form with ⟨rfl, _⟩ | ⟨g2, cap2, rfl, _, _, _, _, ⟨cur, hc⟩, _⟩
    · exact .inl rfl
    · exact .inr fun e => row_ne k hc (by decide) e.symm
  · rcases h3.form with ⟨rfl, _⟩ | ⟨g2, cap2, rfl, _, _, _, _, ⟨cur, hc⟩, _⟩
    · exact .inl rfl
    · exact .inr fun e => row_ne k hc (by decide) e.symm
end
theorem news_two {W : World} {b : Nat} {x y : Value} (h : W.cell? ⟨b, 0, none⟩ = some x) (h' : W.cell? ⟨b, 1, none⟩ = some y) : ∀ j u, [x, y][j]? = some u → W.cell? ((⟨b, 0, none⟩ : Addr).add j) = some u := by
  intro j u hu
  match j, hu with
  | 0, hu => simp at hu; subst hu; simpa [Addr.add] using h
  | 1, hu => simp at hu; subst hu; simpa [Addr.add] using h'
  | j + 2, hu => simp at hu
theorem ownD_one {w' : World} {B g cap n : Nat} {ids : List (Int × Int)} {x : Int × Int} (hn : ids.length = n) (h : w'.ownsRow B 48 2 (.slice (some ⟨g, 0, none⟩) (n + 1) cap) (n + 1) (idCells ids ++ [.int .i64 x.1, .int .i64 x.2])) : OwnD w' B (.slice (some ⟨g, 0, none⟩) (n + 1) cap) (ids ++ [x]) := by
  subst hn
  unfold OwnD
  rw [List.length_append, idCells_app]
  exact h
theorem OwnD.at {w : World} {B : Nat} {d : Option Addr} {n r : Nat} {ids : List (Int × Int)} (h : OwnD w B (.slice d n r) ids) {j : Nat} (hj : j < ids.length) : ∃ g i1 i2, d = some ⟨g, 0, none⟩ ∧ n = ids.length ∧ g < w.heap.size ∧ ids[j]? = some (i1, i2) ∧ w.cell? ⟨g, j * 2, none⟩ = some (.int .i64 i1) ∧ w.cell? ⟨g, j * 2 + 1, none⟩ = some (.int .i64 i2) := by
  rcases h.form with ⟨h1, h2⟩ | ⟨g, cap, h1, _, hlt, _, _, _, hc⟩
  · rw [h2] at hj; simp at hj
  · cases h1
    have e : ids[j]? = some ids[j] := List.getElem?_eq_getElem hj
    obtain ⟨c1, c2⟩ := idCells_get ids j _ e
    exact ⟨g, ids[j].1, ids[j].2, rfl, rfl, hlt, e, (hc _ (by omega)).trans c1, (hc _ (by omega)).trans c2⟩
end Go.Proofs.Ytlcefgdiclpcjaa
