/- Texts joined: XEs. -/
import Derived.Test.YtgodhpampaleeaaDoorEo
import Derived.Test.YtgodhpampaleeaaDoorEm
import Derived.Test.YtgodhpampaleeaaDoorEq
import Derived.Great.BuildSlice
import Derived.Great.FillDense
set_option maxRecDepth 4000
/- Layer 24: one kid more widens: what the drawn regions yield. -/
namespace Go.Proofs.YtgodhpampaleeaaDoor
open Go.RowKit Go.Bx Go.Od Go.Hp Go.Great
attribute [local go_sem ↓] Go.wp_at_zero Go.wp_at_succ
set_option linter.unusedVariables false

theorem infoLy : ((Tryd.prog.info? 38).map fun i => (i.size, decide (i.bytes ≤ 1000))) = some (31, true) := by kernel_rfl
theorem zeroLy : ((Tryd.prog.info? 38).bind (·.zero)).map (·.cells.size) = some 31 := by kernel_rfl
theorem infoLy' : ∃ i z, Tryd.prog.info? 38 = some i ∧ i.zero = some z ∧ i.size = 31 ∧ i.bytes ≤ 1000 ∧ z.cells.size = 31 := by
  have h := infoLy
  have hz := zeroLy
  cases e : Tryd.prog.info? 38 with
  | none => rw [e] at h; cases h
  | some i =>
    rw [e] at h hz
    simp only [Option.map_some, Option.some.injEq, Prod.mk.injEq, decide_eq_true_eq, Option.bind_some] at h hz
    cases e2 : i.zero with
    | none => rw [e2] at hz; cases hz
    | some z =>
      rw [e2] at hz
      exact ⟨i, z, rfl, e2, h.1, h.2, by simpa using hz⟩
/-- a struct's load in a quiet region, behind a guard that is met -/
theorem wpQuiet_load_want {P : Program} {ops : Array Oper} {C : World → Prop} {Q : Act → Prop} {a : Act} {o : Oper} {rest : List Oper} (hgd : Region.wanted o (yielded ops a.tmps) = true) (ty : TypeId) (x : Operand) (ho : o.op = .load ty x)
    (b off : Nat) (hx : a.eval x = .pointer (some ⟨b, off, none⟩)) (cs : List Value) (d : TypeDesc) (hS : ∀ w, C w → w.rangeAt b off cs)
    (hu : P.underlying ty = some d) (hd : d.isRow = true) (hi : (P.info? ty).map (·.size) = some cs.length) (h : wpQuiet P ops C Q rest (a.put o.dst (.agg cs.toArray))) : wpQuiet P ops C Q (o :: rest) a :=
  wpQuiet_step fun K hK => by
    rw [if_pos hgd]
    refine ⟨.agg cs.toArray, fun w hw => ?_, hK _ h⟩
    unfold Oper.quietAt execOp
    simp only [ho, hx, Instr.loadAt, Instr.sureAddr, Sem.run_bind, Sem.run_pure, Result.andThen_ok, run_loadVar_mid w b off ty cs d (hS w hw) hu hd hi]
    exact ⟨rfl, rfl⟩
/-- a struct's load in a region that draws -/
theorem gives_load {P : Program} {o : Oper} {ev : Operand → Value} {w : World} (ty : TypeId) (x : Operand) (ho : o.op = .load ty x) (b off : Nat) (hx : ev x = .pointer (some ⟨b, off, none⟩)) (cs : List Value) (d : TypeDesc) (hS : w.rangeAt b off cs)
    (hu : P.underlying ty = some d) (hd : d.isRow = true) (hi : (P.info? ty).map (·.size) = some cs.length) : gives P o ev w (fun v w' => v = .agg cs.toArray ∧ w' = w) := by
  unfold gives execOp
  simp only [ho, hx, Instr.loadAt, Instr.sureAddr, Sem.run_bind, Sem.run_pure, Result.andThen_ok, run_loadVar_mid w b off ty cs d hS hu hd hi]
  exact ⟨trivial, trivial⟩
/-- a literal of one struct -/
theorem gives_one {P : Program} {o : Oper} {ev : Operand → Value} {w : World} (t e : TypeId) (x : Operand) (ho : o.op = .buildSlice t 1 #[(0, x)]) (cs : List Value) (hx : ev x = .agg cs.toArray) (ie : TypeInfo) (z : Value) (sz : Nat)
    (hu : P.underlying t = some (.slice e)) (hie : P.info? e = some ie) (hz : ie.zero = some z) (hsz : ie.size = sz) (h0 : 0 < sz) (h1 : sz ≤ 1000) (hl : cs.length = sz) : gives P o ev w (fun v w' => v = .slice (some ⟨w.heap.size, 0, none⟩) 1 1 ∧ w' = w.alloc (.cells cs.toArray e)) := by
  have hf := fill_whole (s := sz) h0 [.agg cs.toArray] ((Array.range (1 * sz)).map (z.cells[· % z.cells.size]!)) (by intro v hv; rw [List.mem_singleton.1 hv]; simpa [Value.cells] using hl) (by simp)
  have hr := run_buildSlice (P := P) w t e 1 #[(0, .agg cs.toArray)] cs.toArray ie z hu hie hz (by omega) (by omega) (by
    rw [hsz]
    simpa [Value.cells] using hf)
  unfold gives execOp
  simp [ho, hx, hr, Result.andThen]
/-- what the operations of 'm.Kids = append(append([]Layer{}, l.Kids...), k)' yield -/
def MT (B lb M : Nat) (ka : Option Addr) (kn kc : Nat) (kcs Lc Xc : List Value) (i : Nat) (v v' : Value) (W : World) : Prop := match i with
  | 0 => ∃ g, v = .slice (some ⟨g, 0, none⟩) 0 0 ∧ W.ownsRow B 38 31 (.slice (some ⟨g, 0, none⟩) 0 0) 0 []
  | 1 => v = .pointer (some ⟨lb, 30, none⟩)
  | 2 => v = .slice ka kn kc
  | 3 => ∃ a c, v = .slice a kn c ∧ W.ownsRow B 38 31 (.slice a kn c) kn kcs
  | 4 => v = .agg Xc.toArray
  | 5 => ∃ g, v = .slice (some ⟨g, 0, none⟩) 1 1 ∧ W.ownsRow B 38 31 (.slice (some ⟨g, 0, none⟩) 1 1) 1 Xc
  | 6 => ∃ a c, v = .slice a (kn + 1) c ∧ W.ownsRow B 38 31 (.slice a (kn + 1) c) (kn + 1) (kcs ++ Xc)
  | 7 => v = .pointer (some ⟨M, 30, none⟩)
  | 8 => Box W M (Lc.set 30 v')
  | _ => True
section
variable {B lb M : Nat} {ka : Option Addr} {kn kc : Nat} {kcs Lc Xc : List Value}
theorem MT.below {i : Nat} {v v' : Value} {W W' : World} (h : MT B lb M ka kn kc kcs Lc Xc i v v' W) (hb : Below W.heap.size W W') : MT B lb M ka kn kc kcs Lc Xc i v v' W' := by
  match i, h with
  | 0, ⟨g, h1, h2⟩ => exact ⟨g, h1, owns_below h2 hb (Nat.le_refl _)⟩
  | 1, h => exact h
  | 2, h => exact h
  | 3, ⟨a, c, h1, h2⟩ => exact ⟨a, c, h1, owns_below h2 hb (Nat.le_refl _)⟩
  | 4, h => exact h
  | 5, ⟨g, h1, h2⟩ => exact ⟨g, h1, owns_below h2 hb (Nat.le_refl _)⟩
  | 6, ⟨a, c, h1, h2⟩ => exact ⟨a, c, h1, owns_below h2 hb (Nat.le_refl _)⟩
  | 7, h => exact h
  | 8, h => exact Box.call h hb
  | _ + 9, _ => trivial
theorem MT.set {i : Nat} {v v' : Value} {W : World} (h : MT B lb M ka kn kc kcs Lc Xc i v v' W) (h8 : i ≠ 8) {p : Addr} (hp : p.block < B) (u : Value) : MT B lb M ka kn kc kcs Lc Xc i v v' (W.setCell p u) := by
  match i, h8, h with
  | 0, _, ⟨g, h1, h2⟩ => exact ⟨g, h1, owns_set h2 hp u⟩
  | 1, _, h => exact h
  | 2, _, h => exact h
  | 3, _, ⟨a, c, h1, h2⟩ => exact ⟨a, c, h1, owns_set h2 hp u⟩
  | 4, _, h => exact h
  | 5, _, ⟨g, h1, h2⟩ => exact ⟨g, h1, owns_set h2 hp u⟩
  | 6, _, ⟨a, c, h1, h2⟩ => exact ⟨a, c, h1, owns_set h2 hp u⟩
  | 7, _, h => exact h
  | 8, h8, _ => exact absurd rfl h8
  | _ + 9, _, _ => trivial
theorem MT.grow {i : Nat} {v v' : Value} {W W' : World} (h : MT B lb M ka kn kc kcs Lc Xc i v v' W) (h0 : i ≠ 0) (h3 : i ≠ 3) (h5 : i ≠ 5) (h6 : i ≠ 6) (hM : M < B) {e : TypeId} {size n : Nat} {u : Value} {xs : List Value} (ho : W.ownsRow B e size u n xs) (hg : W.grownBy W' u.ownBlock) : MT B lb M ka kn kc kcs Lc Xc i v v' W' := by
  match i, h0, h3, h5, h6, h with
  | 0, h0, _, _, _, _ => exact absurd rfl h0
  | 1, _, _, _, _, h => exact h
  | 2, _, _, _, _, h => exact h
  | 3, _, h3, _, _, _ => exact absurd rfl h3
  | 4, _, _, _, _, h => exact h
  | 5, _, _, h5, _, _ => exact absurd rfl h5
  | 6, _, _, _, h6, _ => exact absurd rfl h6
  | 7, _, _, _, _, h => exact h
  | 8, _, _, _, _, h => exact Box.grown h hg ho hM
  | _ + 9, _, _, _, _, _ => trivial
end
/-- the blocks that stand -/
def MI (w : World) (B M : Nat) (Lc Xc : List Value) (W : World) : Prop := (∃ u, Bag w W [(w.heap.size, Lc), (w.heap.size + 1, Xc), (M, Lc.set 30 u)]) ∧ B ≤ W.heap.size
theorem MI.call {w : World} {B M : Nat} {Lc Xc : List Value} {W W' : World} (h : MI w B M Lc Xc W) (hb : Below W.heap.size W W') : MI w B M Lc Xc W' := ⟨⟨_, h.1.choose_spec.call hb⟩, Nat.le_trans h.2 hb.size⟩
theorem MI.bel {w : World} {B M : Nat} {Lc Xc : List Value} {W : World} (h : MI w B M Lc Xc W) : Below w.heap.size w W := h.1.choose_spec.below
theorem cell_lt {w : World} {p : Addr} {u : Value} (h : w.cell? p = some u) : p.block < w.heap.size := by
  by_cases hp : p.block < w.heap.size
  · exact hp
  · unfold World.cell? at h
    simp [Array.getElem?_eq_none (Nat.le_of_not_lt hp)] at h
theorem set30 {Lc : List Value} {v : Value} (h : Lc[30]? = some v) : Lc.set 30 v = Lc := by
  apply List.ext_getElem?
  intro k
  rw [List.getElem?_set]
  split
  · rename_i e
    subst e
    rw [h]
    split
    · rfl
    · rename_i h2
      exact absurd (List.getElem?_eq_some_iff.1 h).1 h2
  · rfl
/-- the copy with one kid more, in memory -/
theorem m_reads {N B : Nat} {w W : World} {l x : Ly} {Lc Xc kcs : List Value} {v : Value} (hb : Below w.heap.size w W) (hl : RLy (N + 2) (· < w.heap.size) w Lc l) (hx : RLy (N + 1) (· < w.heap.size) w Xc x)
    (ho : W.ownsRow B 38 31 v (l.kids.length + 1) (kcs ++ Xc)) (hkl : kcs.length = l.kids.length * 31) (hk : ∀ i y, l.kids[i]? = some y → RLy (N + 1) (· < w.heap.size) w ((kcs.drop (i * 31)).take 31) y) :
    RLy (N + 2) (· < W.heap.size) W (Lc.set 30 v) (.mk l.i0 l.i1 l.look (l.kids ++ [x])) := by
  have hS : Same (· < w.heap.size) w W := Same.of_below hb fun b h => h
  have hup : ∀ b, b < w.heap.size → b < W.heap.size := fun b h => Nat.lt_of_lt_of_le h hb.size
  obtain ⟨pv, fv, bv, kv, rfl, h2, h3, hA, _⟩ := hl
  refine ⟨pv, fv, bv, v, rfl, h2, h3, (hA.same hS).mono hup, ?_⟩
  refine own_read (by decide) ho (by simp [Ly.kids]) fun i y hy => ?_
  exact (RLy.ok (N + 1)).mono hup ((RLy.ok (N + 1)).same hS (flat_snoc hkl hk hx i y hy))
end Go.Proofs.YtgodhpampaleeaaDoor
