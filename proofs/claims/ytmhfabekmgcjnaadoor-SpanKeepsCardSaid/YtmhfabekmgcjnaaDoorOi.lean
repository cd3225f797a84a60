/- Layer 11: order.inputs. -/
import Derived.Test.YtmhfabekmgcjnaaDoorOg
namespace Go.Proofs.YtmhfabekmgcjnaaDoor
open Go.RowKit Go.Bx Go.Od
attribute [local go_sem ↓] Go.wp_at_zero Go.wp_at_succ
set_option linter.unusedVariables false

theorem OwnP.mono {w : World} {B C : Nat} {v : Value} {xs : List Int} (h : OwnP w B v xs) (hC : C ≤ B) : OwnP w C v xs := by
  unfold OwnP at *
  refine ⟨h.1, ?_⟩
  rcases h.2 with hn | ⟨g, cap, cur, hv, hB, rest⟩
  · exact .inl hn
  · exact .inr ⟨g, cap, cur, hv, Nat.le_trans hC hB, rest⟩
/-- numbers as a row -/
def ofN (l : List Nat) : List Int := l.map fun k : Nat => (k : Int)
theorem ofN_len (l : List Nat) : (ofN l).length = l.length := by simp [ofN]
theorem ofN_app (l : List Nat) (k : Nat) : ofN (l ++ [k]) = ofN l ++ [(k : Int)] := by simp [ofN]
/-- what inputs leaves -/
def InPost (w : World) (l : List Nat) (e : Ending) (w' : World) : Prop := ∃ a c, e = .returned (.slice a l.length c) ∧ OwnP w' w.heap.size (.slice a l.length c) (ofN l) ∧ Below w.heap.size w w'
/-- between two rounds -/
structure IR (w : World) (nv : Value) (out : Int) (n : Nat) (s : List Nat) (v : Value) (wr : World) : Prop where
  box : Box wr w.heap.size [nv, .int .i64 out]
  seen : SeenIs wr (w.heap.size + 1) n s
  own : OwnP wr (w.heap.size + 2) v (ofN s)
  below : Below w.heap.size w wr
  size : w.heap.size + 2 ≤ wr.heap.size
theorem IR.drewN {w : World} {nv : Value} {out : Int} {n : Nat} {s : List Nat} {v : Value} {wr : World} (h : IR w nv out n s v wr) (k : Nat) : IR w nv out n s v (wr.drewN k) :=
  ⟨h.box, h.seen, h.own, below_drewN h.below k, h.size⟩
theorem IR.sl {w : World} {nv : Value} {out : Int} {n : Nat} {s : List Nat} {v : Value} {wr : World} (h : IR w nv out n s v wr) : ∃ a c, v = .slice a s.length c := by
  rcases h.own.form with ⟨rfl, h'⟩ | ⟨g, cap, rfl, _⟩
  · have : s.length = 0 := by rw [← ofN_len, h']; rfl
    exact ⟨none, 0, by rw [this]⟩
  · rw [ofN_len]; exact ⟨_, cap, rfl⟩
/-- once the map is written -/
theorem IR.put {w : World} {nv : Value} {out : Int} {n : Nat} {s : List Nat} {v : Value} {wr w1 : World} {k : Nat} (h : IR w nv out n s v wr) (hs : SeenIs w1 (w.heap.size + 1) n (s ++ [k])) (hg : wr.grownBy w1 (some (w.heap.size + 1))) :
    Box w1 w.heap.size [nv, .int .i64 out] ∧ OwnP w1 (w.heap.size + 2) v (ofN s) ∧ Below w.heap.size w w1 ∧ w.heap.size + 2 ≤ w1.heap.size ∧ SeenIs w1 (w.heap.size + 1) n (s ++ [k]) :=
  ⟨h.box.grown' hg (by simp), World.ownsRow.kept h.own hg (.inr (by
    intro h2
    have := (World.ownsRow.lt h.own _ h2).1
    omega)), h.below.grown hg (Nat.le_trans (by omega) h.size) (fun k hk => by simp at hk; omega), Nat.le_trans h.size hg.size, hs⟩
/-- once the row has grown too -/
theorem IR.app {w : World} {nv : Value} {out : Int} {n : Nat} {s : List Nat} {v : Value} {w1 w8 : World} {z g8 c8 : Nat} {o : Obj} (h : Box w1 w.heap.size [nv, .int .i64 out] ∧ OwnP w1 (w.heap.size + 2) v (ofN s) ∧ Below w.heap.size w w1 ∧ w.heap.size + 2 ≤ w1.heap.size ∧ SeenIs w1 (w.heap.size + 1) n (s ++ [z]))
    (hown : w8.ownsRow (w.heap.size + 2) 3 1 (.slice (some ⟨g8, 0, none⟩) (s.length + 1) c8) (s.length + 1) ((ofN s).map (Value.int .i64) ++ [.int .i64 z])) (hg : (w1.alloc o).grownBy w8 v.ownBlock) :
    IR w nv out n (s ++ [z]) (.slice (some ⟨g8, 0, none⟩) (s.length + 1) c8) w8 := by
  obtain ⟨h1, h2, h3, h4, h5⟩ := h
  have hb : ∀ k, v.ownBlock = some k → w.heap.size + 2 ≤ k := fun k hk => (World.ownsRow.lt h2 k hk).1
  refine ⟨(h1.alloc o).grown' hg fun e => by have := hb _ e; omega, (h5.alloc o).kept hg fun e => by have := hb _ e.symm; omega, ?_, (h3.alloc (by omega) o).grown hg (by rw [size_alloc]; omega) fun k hk => by have := hb _ hk; omega, ?_⟩
  · unfold OwnP
    rw [ofN_app, List.map_append, List.length_append, ofN_len]
    exact hown
  · have := hg.size
    rw [size_alloc] at this
    omega
end Go.Proofs.YtmhfabekmgcjnaaDoor
