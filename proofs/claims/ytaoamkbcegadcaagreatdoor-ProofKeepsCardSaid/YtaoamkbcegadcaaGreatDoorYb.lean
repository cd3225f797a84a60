/- Texts joined: XYb. -/
import Derived.Test.YtaoamkbcegadcaaGreatDoorYz
import Derived.Test.YtaoamkbcegadcaaGreatDoorAh
set_option maxRecDepth 4000
/- Layer 19: a maker in memory. -/
namespace Go.Proofs.YtaoamkbcegadcaaGreatDoor
open Go.RowKit Go.Bx Go.Od Go.Hp
set_option linter.unusedVariables false

/-- a number stored into a row of one's own -/
theorem row_put {w : World} {B s g cap n : Nat} {e : TypeId} {xs : List Value} (h : w.ownsRow B e s (.slice (some ⟨g, 0, none⟩) n cap) n xs) (j : Nat) (x : Value) (hj : j < n * s) : (w.setCell ⟨g, j, none⟩ x).ownsRow B e s (.slice (some ⟨g, 0, none⟩) n cap) n (xs.set j x) := (World.ownsRow.stored h j x).1
/-- the cells of a pass -/
def pcl (s t : Value) (p : Ps) : List Value := [s, t, .int .i64 p.box.x0, .int .i64 p.box.y0, .int .i64 p.box.x1, .int .i64 p.box.y1, .int .i64 p.slot, .int .i64 p.last]
/-- passes' cells: the slices lie in s, t -/
def pcs : List (Value × Value × Ps) → List Value
  | [] => []
  | (s, t, p) :: l => pcl s t p ++ pcs l
theorem pcs_len : ∀ l : List (Value × Value × Ps), (pcs l).length = l.length * 8
  | [] => rfl
  | (s, t, p) :: l => by simp [pcs, pcl, pcs_len l]; omega
theorem pcs_app (a b : List (Value × Value × Ps)) : pcs (a ++ b) = pcs a ++ pcs b := by
  induction a with
  | nil => rfl
  | cons x a ih => obtain ⟨s, t, p⟩ := x; simp [pcs, ih]
theorem pcs_get : ∀ (l : List (Value × Value × Ps)) (i : Nat) (x : Value × Value × Ps), l[i]? = some x → ∀ k u, (pcl x.1 x.2.1 x.2.2)[k]? = some u → (pcs l)[i * 8 + k]? = some u
  | [], i, x, h, k, u, hk => by simp at h
  | (s, t, p) :: l, 0, x, h, k, u, hk => by
    simp at h
    subst h
    have hk8 : k < (pcl s t p).length := (List.getElem?_eq_some_iff.1 hk).1
    rw [Nat.zero_mul, Nat.zero_add]
    show (pcl s t p ++ pcs l)[k]? = some u
    rw [List.getElem?_append_left hk8]
    exact hk
  | (s, t, p) :: l, i + 1, x, h, k, u, hk => by
    have := pcs_get l i x (by simpa using h) k u hk
    show (pcl s t p ++ pcs l)[(i + 1) * 8 + k]? = some u
    rw [List.getElem?_append_right (by simp [pcl]; omega)]
    have e : (i + 1) * 8 + k - (pcl s t p).length = i * 8 + k := by simp [pcl]; omega
    rw [e]
    exact this
theorem pcs_set : ∀ (l : List (Value × Value × Ps)) (i : Nat) (x : Value × Value × Ps) (k : Nat) (u : Value) (y : Value × Value × Ps), l[i]? = some x → k < 8 → (pcl x.1 x.2.1 x.2.2).set k u = pcl y.1 y.2.1 y.2.2 → (pcs l).set (i * 8 + k) u = pcs (l.set i y)
  | [], i, x, k, u, y, h, _, _ => by simp at h
  | (s, t, p) :: l, 0, x, k, u, y, h, hk, he => by
    simp at h
    subst h
    rw [Nat.zero_mul, Nat.zero_add]
    show (pcl s t p ++ pcs l).set k u = pcs (y :: l)
    rw [List.set_append_left _ _ (by simp [pcl]; omega), he]
    rfl
  | (s, t, p) :: l, i + 1, x, k, u, y, h, hk, he => by
    have := pcs_set l i x k u y (by simpa using h) hk he
    show (pcl s t p ++ pcs l).set ((i + 1) * 8 + k) u = pcl s t p ++ pcs (l.set i y)
    rw [List.set_append_right _ _ (by simp [pcl]; omega)]
    have e : (i + 1) * 8 + k - (pcl s t p).length = i * 8 + k := by simp [pcl]; omega
    rw [e, this]
/-- slots' cells -/
def scs : List (Int × Int) → List Value
  | [] => []
  | s :: l => .int .i64 s.1 :: .int .i64 s.2 :: scs l
theorem scs_len : ∀ l : List (Int × Int), (scs l).length = l.length * 2
  | [] => rfl
  | s :: l => by simp [scs, scs_len l]; omega
theorem scs_app (a b : List (Int × Int)) : scs (a ++ b) = scs a ++ scs b := by
  induction a with
  | nil => rfl
  | cons x a ih => simp [scs, ih]
theorem scs_get : ∀ (l : List (Int × Int)) (i : Nat) (x : Int × Int), l[i]? = some x → (scs l)[i * 2]? = some (.int .i64 x.1) ∧ (scs l)[i * 2 + 1]? = some (.int .i64 x.2)
  | [], i, x, h => by simp at h
  | s :: l, 0, x, h => by simp at h; subst h; exact ⟨rfl, rfl⟩
  | s :: l, i + 1, x, h => by
    have := scs_get l i x (by simpa using h)
    rw [show (i + 1) * 2 = i * 2 + 1 + 1 by omega, show i * 2 + 1 + 1 + 1 = i * 2 + 1 + 1 + 1 by rfl]
    simpa [scs] using this
theorem scs_set : ∀ (l : List (Int × Int)) (i : Nat) (x : Int × Int) (v : Int), l[i]? = some x → (scs l).set (i * 2 + 1) (.int .i64 v) = scs (l.set i (x.1, v))
  | [], i, x, v, h => by simp at h
  | s :: l, 0, x, v, h => by simp at h; subst h; rfl
  | s :: l, i + 1, x, v, h => by
    have := scs_set l i x v (by simpa using h)
    rw [show (i + 1) * 2 + 1 = i * 2 + 1 + 1 + 1 by omega]
    simp only [scs, List.set_cons_succ]
    rw [this]
/-- the cells of a maker -/
def mcl (nv : Value) (out : Int) (c : Cf) (pv : Value) (src : Rc) (sn pk : Int) (sv : Value) : List Value :=
  [nv, .int .i64 out, .bool c.fuse, .bool c.al, .bool c.roi, .bool c.dam, .int .i64 c.room, pv, .int .i64 src.x0, .int .i64 src.y0, .int .i64 src.x1, .int .i64 src.y1, .int .i64 sn, .int .i64 pk, sv]
/-- a maker: all that it has is its own, behind w0 -/
structure MS (w0 : World) (M : Nat) (nv : Value) (out : Int) (c : Cf) (pl : List (Value × Value × Ps)) (pv : Value) (src : Rc) (sn pk : Int) (sl : List (Int × Int)) (sv : Value) (W : World) : Prop where
  hm : W.heap[M]? = some (.cells (mcl nv out c pv src sn pk sv).toArray 51 (0, 0))
  hM : w0.heap.size ≤ M
  pr : W.ownsRow w0.heap.size 37 8 pv pl.length (pcs pl)
  pi : ∀ x ∈ pl, OwnP W w0.heap.size x.1 (ofN x.2.2.nodes) ∧ OwnP W w0.heap.size x.2.1 x.2.2.reads
  sr : W.ownsRow w0.heap.size 73 2 sv sl.length (scs sl)
  below : Below w0.heap.size w0 W
section
variable {w0 W W' : World} {M : Nat} {nv pv sv : Value} {out : Int} {c : Cf} {pl : List (Value × Value × Ps)} {src : Rc} {sn pk : Int} {sl : List (Int × Int)}
theorem MS.box (h : MS w0 M nv out c pl pv src sn pk sl sv W) : Box W M (mcl nv out c pv src sn pk sv) := ⟨_, h.hm⟩
theorem MS.lt (h : MS w0 M nv out c pl pv src sn pk sl sv W) : M < W.heap.size := (Array.getElem?_eq_some_iff.1 h.hm).1
theorem MS.call (h : MS w0 M nv out c pl pv src sn pk sl sv W) (hb : Below W.heap.size W W') : MS w0 M nv out c pl pv src sn pk sl sv W' :=
  ⟨(hb.block M h.lt).trans h.hm, h.hM, owns_below h.pr hb (Nat.le_refl _), fun x hx => ⟨(h.pi x hx).1.below hb, (h.pi x hx).2.below hb⟩, owns_below h.sr hb (Nat.le_refl _), h.below.trans (hb.mono h.below.size)⟩
theorem own_apartM {B s n g : Nat} {e t : TypeId} {v : Value} {xs : List Value} {cs : Array Value} {fz : Nat × Nat} (h : W.ownsRow B e s v n xs) (hg : W.heap[g]? = some (.cells cs t fz)) (ht : t ≠ e) : v.ownBlock ≠ some g := by
  intro hk
  rcases h.2 with ⟨rfl, _⟩ | ⟨g', cap, cur, rfl, _, hb, _⟩
  · cases hk
  · simp [Value.ownBlock] at hk
    subst hk
    rw [hg] at hb
    simp at hb
    exact ht hb.2.1
theorem row_keep {B s n g k : Nat} {e : TypeId} {v : Value} {xs : List Value} (h : W.ownsRow B e s v n xs) (hne : v.ownBlock ≠ some g) (u : Value) : (W.setCell ⟨g, k, none⟩ u).ownsRow B e s v n xs := by
  refine ⟨h.1, ?_⟩
  rcases h.2 with hn | ⟨g', cap, cur, rfl, hB, hb, rest⟩
  · exact .inl hn
  · refine .inr ⟨g', cap, cur, rfl, hB, ?_, rest⟩
    rw [Below.heap_setCell _ _ _ _ fun e => hne (by have e : g' = g := e; rw [e]; rfl)]
    exact hb
/-- a cell of the maker's own is stored -/
theorem MS.put (h : MS w0 M nv out c pl pv src sn pk sl sv W) (k : Nat) (u : Value) {c' : Cf} {src' : Rc} {sn' pk' : Int} (he : (mcl nv out c pv src sn pk sv).set k u = mcl nv out c' pv src' sn' pk' sv) : MS w0 M nv out c' pl pv src' sn' pk' sl sv (W.setCell ⟨M, k, none⟩ u) := by
  have k1 : ∀ {B s n : Nat} {e : TypeId} {v : Value} {xs : List Value}, W.ownsRow B e s v n xs → 51 ≠ e → (W.setCell ⟨M, k, none⟩ u).ownsRow B e s v n xs := fun hr ht => row_keep hr (own_apartM hr h.hm ht) u
  refine ⟨?_, h.hM, k1 h.pr (by decide), fun x hx => ⟨k1 (h.pi x hx).1 (by decide), k1 (h.pi x hx).2 (by decide)⟩, k1 h.sr (by decide), h.below.setCell (by exact h.hM) _⟩
  have h2 : (W.setCell ⟨M, k, none⟩ u).heap[M]? = some (.cells ((mcl nv out c pv src sn pk sv).toArray.setIfInBounds k u) 51 (0, 0)) := by
    simp [World.setCell, Array.getElem?_modify, h.hm]
  rw [h2, ← he]
  simp
end
end Go.Proofs.YtaoamkbcegadcaaGreatDoor
