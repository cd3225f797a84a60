/- Texts joined: XBag XLd2. -/
import Derived.Test.YtgodhpampaleeaaDoorAa
import Derived.Deep.MidRow
import Derived.Deep.WholeRow
import Derived.BigFrame
set_option maxRecDepth 4000
/- A bag of blocks of one's own, each known whole: what calls, allocations and stores leave of it. Plain: no program. -/
namespace Go.Bx
open Go.RowKit
set_option linter.unusedVariables false

def Bag (w W : World) (l : List (Nat × List Value)) : Prop := (∀ p ∈ l, Box W p.1 p.2 ∧ w.heap.size ≤ p.1) ∧ (l.map (·.1)).Nodup ∧ Below w.heap.size w W
theorem Bag.nil (w : World) : Bag w w [] := ⟨fun _ h => (List.not_mem_nil h).elim, List.nodup_nil, Below.refl _ _⟩
theorem Bag.below {w W : World} {l : List (Nat × List Value)} (h : Bag w W l) : Below w.heap.size w W := h.2.2
theorem Bag.call {w W W' : World} {l : List (Nat × List Value)} (h : Bag w W l) (hb : Below W.heap.size W W') : Bag w W' l :=
  ⟨fun p hp => ⟨(h.1 p hp).1.call hb, (h.1 p hp).2⟩, h.2.1, h.2.2.trans (hb.mono h.2.2.size)⟩
theorem Bag.alloc {w W : World} {l : List (Nat × List Value)} (h : Bag w W l) (cs : List Value) (t : TypeId) : Bag w (W.alloc (.cells cs.toArray t)) (l ++ [(W.heap.size, cs)]) := by
  refine ⟨fun p hp => ?_, ?_, h.2.2.alloc h.2.2.size _⟩
  · rcases List.mem_append.1 hp with hp | hp
    · exact ⟨(h.1 p hp).1.alloc _, (h.1 p hp).2⟩
    · obtain rfl := List.mem_singleton.1 hp
      exact ⟨Box.new W cs t, h.2.2.size⟩
  · rw [List.map_append, List.nodup_append]
    refine ⟨h.2.1, by simp, fun a ha b hb e => ?_⟩
    obtain ⟨p, hp, rfl⟩ := List.mem_map.1 ha
    have := (h.1 p hp).1.lt
    simp at hb
    omega
theorem Bag.allocO {w W : World} {l : List (Nat × List Value)} (h : Bag w W l) (o : Obj) : Bag w (W.alloc o) l :=
  ⟨fun p hp => ⟨(h.1 p hp).1.alloc _, (h.1 p hp).2⟩, h.2.1, h.2.2.alloc h.2.2.size _⟩
theorem Bag.drew {w W : World} {l : List (Nat × List Value)} (h : Bag w W l) : Bag w W.drew l := ⟨fun p hp => ⟨(h.1 p hp).1.drew, (h.1 p hp).2⟩, h.2.1, h.2.2.drew⟩
theorem Bag.box {w W : World} {l : List (Nat × List Value)} (h : Bag w W l) (i : Nat) {a : Nat} {cs : List Value} (hi : l[i]? = some (a, cs)) : Box W a cs := (h.1 _ (List.mem_of_getElem? hi)).1
theorem Bag.ge {w W : World} {l : List (Nat × List Value)} (h : Bag w W l) (i : Nat) {a : Nat} {cs : List Value} (hi : l[i]? = some (a, cs)) : w.heap.size ≤ a := (h.1 _ (List.mem_of_getElem? hi)).2
theorem Bag.set {w W : World} {l : List (Nat × List Value)} (h : Bag w W l) (i : Nat) {a : Nat} {cs : List Value} (hi : l[i]? = some (a, cs)) (j : Nat) (v : Value) : Bag w (W.setCell ⟨a, j, none⟩ v) (l.set i (a, cs.set j v)) := by
  have hil := (List.getElem?_eq_some_iff.1 hi).1
  have hmap : (l.set i (a, cs.set j v)).map (·.1) = l.map (·.1) := by
    rw [List.map_set]
    have e : (l.map (·.1))[i]? = some a := by rw [List.getElem?_map, hi]; rfl
    apply List.ext_getElem?
    intro k
    by_cases hk : i = k
    · subst hk
      rw [List.getElem?_set_self (by simpa using hil), e]
    · rw [List.getElem?_set_ne hk]
  refine ⟨fun p hp => ?_, by rw [hmap]; exact h.2.1, h.2.2.setCell (h.ge i hi) _⟩
  obtain ⟨k, hk⟩ := List.getElem?_of_mem hp
  by_cases e : i = k
  · subst e
    rw [List.getElem?_set_self hil] at hk
    cases hk
    exact ⟨(h.box i hi).self j v, h.ge i hi⟩
  · rw [List.getElem?_set_ne e] at hk
    have hk' := h.1 p (List.mem_of_getElem? hk)
    refine ⟨hk'.1.set ?_ v, hk'.2⟩
    intro e2
    have h1 : (l.map (·.1))[k]? = some p.1 := by rw [List.getElem?_map, hk]; rfl
    have h2 : (l.map (·.1))[i]? = some p.1 := by rw [List.getElem?_map, hi]; exact congrArg some e2.symm
    exact e ((List.getElem?_inj (by simpa using hil) h.2.1).1 (h2.trans h1.symm))
theorem Bag.take {w W : World} {l l' : List (Nat × List Value)} (h : Bag w W l) (hs : l'.Sublist l) : Bag w W l' :=
  ⟨fun p hp => h.1 p (hs.subset hp), h.2.1.sublist (hs.map _), h.2.2⟩
theorem Bag.cell {w W : World} {l : List (Nat × List Value)} (h : Bag w W l) (i : Nat) {a : Nat} {cs : List Value} (hi : l[i]? = some (a, cs)) (j : Nat) {v : Value} (hv : cs[j]? = some v) : W.cell? ⟨a, j, none⟩ = some v := (h.box i hi).cell j hv
theorem Bag.frozen {w W : World} {l : List (Nat × List Value)} (h : Bag w W l) (i : Nat) {a : Nat} {cs : List Value} (hi : l[i]? = some (a, cs)) (j : Nat) : W.frozen? ⟨a, j, none⟩ = false := (h.box i hi).frozen j
theorem Bag.grown {w W W' : World} {l : List (Nat × List Value)} (h : Bag w W l) {base : Nat} {e : TypeId} {size : Nat} {v : Value} {n : Nat} {xs : List Value} (hg : W.grownBy W' v.ownBlock) (ho : W.ownsRow base e size v n xs) (hlt : ∀ p ∈ l, p.1 < base) (hB : w.heap.size ≤ base) : Bag w W' l :=
  ⟨fun p hp => ⟨(h.1 p hp).1.grown hg ho (hlt p hp), (h.1 p hp).2⟩, h.2.1, below_grown h.2.2 hg ho hB h.2.2.size⟩
theorem Bag.made {w W W' : World} {l : List (Nat × List Value)} (h : Bag w W l) (hg : W.grownBy W' none) : Bag w W' l :=
  ⟨fun p hp => ⟨(h.1 p hp).1.grown' hg (by simp), (h.1 p hp).2⟩, h.2.1, h.2.2.grown hg h.2.2.size fun k hk => by cases hk⟩
theorem Bag.add {w W : World} {l : List (Nat × List Value)} (h : Bag w W l) {b : Nat} {cs : List Value} (hx : Box W b cs) (hb : w.heap.size ≤ b) (hn : ∀ p ∈ l, p.1 ≠ b) : Bag w W (l ++ [(b, cs)]) := by
  refine ⟨fun p hp => ?_, ?_, h.2.2⟩
  · rcases List.mem_append.1 hp with hp | hp
    · exact h.1 p hp
    · obtain rfl := List.mem_singleton.1 hp
      exact ⟨hx, hb⟩
  · rw [List.map_append, List.nodup_append]
    refine ⟨h.2.1, by simp, fun a ha c hc e => ?_⟩
    obtain ⟨p, hp, rfl⟩ := List.mem_map.1 ha
    simp at hc
    exact hn p hp (e.trans hc)
theorem Bag.lt {w W : World} {l : List (Nat × List Value)} (h : Bag w W l) : ∀ p ∈ l, p.1 < W.heap.size := fun p hp => (h.1 p hp).1.lt
/-- a row of one's own that is a block, known whole -/
theorem own_box {w : World} {B : Nat} {e : TypeId} {size b n c : Nat} {xs : List Value} (h : w.ownsRow B e size (.slice (some ⟨b, 0, none⟩) n c) n xs) : ∃ cur : List Value, Box w b cur ∧ cur.take (n * size) = xs ∧ B ≤ b ∧ n ≤ c ∧ c ≤ maxLen := by
  rcases h.2 with ⟨h, _⟩ | ⟨g, cap, cur, h1, h2, h3, h4, h5, _, h6⟩
  · cases h
  · cases h1
    exact ⟨cur.toList, ⟨e, by simpa using h3⟩, h6, h2, h4, h5⟩
/-- a world that is the same up to what a call of one's own turned: the boxes are told anew -/
theorem Bag.sub {w w1 W : World} {l : List (Nat × List Value)} (h : Bag w1 W l) (hb : Below w.heap.size w w1) (hl : ∀ p ∈ l, w.heap.size ≤ p.1) : Bag w W l :=
  ⟨fun p hp => ⟨(h.1 p hp).1, hl p hp⟩, h.2.1, hb.trans (h.2.2.mono hb.size)⟩
theorem bag1 (w : World) (cs : List Value) (t : TypeId) : Bag w (w.alloc (.cells cs.toArray t)) [(w.heap.size, cs)] := (Bag.nil w).alloc cs t
theorem bag2 (w : World) (cs ds : List Value) (t u : TypeId) : Bag w ((w.alloc (.cells cs.toArray t)).alloc (.cells ds.toArray u)) [(w.heap.size, cs), (w.heap.size + 1, ds)] := by
  have h := (bag1 w cs t).alloc ds u
  simp only [size_alloc, List.cons_append, List.nil_append] at h
  exact h
theorem bag3 (w : World) (cs ds es : List Value) (t u v : TypeId) : Bag w (((w.alloc (.cells cs.toArray t)).alloc (.cells ds.toArray u)).alloc (.cells es.toArray v)) [(w.heap.size, cs), (w.heap.size + 1, ds), (w.heap.size + 1 + 1, es)] := by
  have h := (bag2 w cs ds t u).alloc es v
  simp only [size_alloc, List.cons_append, List.nil_append] at h
  exact h
/-- a rectangle is stored -/
theorem Bag.set4 {w W : World} {l : List (Nat × List Value)} (h : Bag w W l) (i : Nat) {a : Nat} {v0 v1 v2 v3 : Value} (hi : l[i]? = some (a, [v0, v1, v2, v3])) (u0 u1 u2 u3 : Value) :
    Bag w ((((W.setCell ⟨a, 0, none⟩ u0).setCell ⟨a, 1, none⟩ u1).setCell ⟨a, 2, none⟩ u2).setCell ⟨a, 3, none⟩ u3) (l.set i (a, [u0, u1, u2, u3])) := by
  have hil := (List.getElem?_eq_some_iff.1 hi).1
  have h0 := h.set i hi 0 u0
  have h1 := h0.set i (List.getElem?_set_self hil) 1 u1
  have h2 := h1.set i (List.getElem?_set_self (by simpa using hil)) 2 u2
  have h3 := h2.set i (List.getElem?_set_self (by simpa using hil)) 3 u3
  simpa using h3
end Go.Bx
/- A struct's load in one step (a quiet region; a plain one). Plain: no program. -/
namespace Go.Bx
open Go.RowKit
set_option linter.unusedVariables false

theorem wpQuiet_load {P : Program} {ops : Array Oper} {C : World → Prop} {Q : Act → Prop} {a : Act} {o : Oper} {rest : List Oper} (hgd : o.guard = none) (ty : TypeId) (x : Operand) (ho : o.op = .load ty x)
    (b off : Nat) (hx : a.eval x = .pointer (some ⟨b, off, none⟩)) (cs : List Value) (d : TypeDesc) (hS : ∀ w, C w → w.rangeAt b off cs)
    (hu : P.underlying ty = some d) (hd : d.isRow = true) (hi : (P.info? ty).map (·.size) = some cs.length) (h : wpQuiet P ops C Q rest (a.put o.dst (.agg cs.toArray))) : wpQuiet P ops C Q (o :: rest) a :=
  wpQuiet_step fun K hK => by
    rw [if_pos (by simp [Region.wanted, hgd])]
    refine ⟨.agg cs.toArray, fun w hw => ?_, hK _ h⟩
    unfold Oper.quietAt execOp
    simp only [ho, hx, Instr.loadAt, Instr.sureAddr, Sem.run_bind, Sem.run_pure, Result.andThen_ok, run_loadVar_mid w b off ty cs d (hS w hw) hu hd hi]
    exact ⟨rfl, rfl⟩
/-- a struct is stored where it was just made -/
theorem wpList_store_new {P : Program} {ops : Array Oper} {rest : List Oper} {op : Oper} {a : Act} {w : World} {Q : Exit → Act → World → Prop} (hgd : op.guard = none) (ty : TypeId) (x y : Operand) (ho : op.op = .store ty x y)
    (c c' : Array Value) (hx : a.eval x = .pointer (some ⟨w.heap.size, 0, none⟩)) (hy : a.eval y = .agg c') (hi : (P.info? ty).map (·.size) = some c'.size) (hs : c.size = c'.size) (h1 : c'.all (·.oneCell') = true)
    (h : wpList P ops Q rest (a.put op.dst undef) (w.alloc (.cells c' ty))) : wpList P ops Q (op :: rest) a (w.alloc (.cells c ty)) :=
  wpList_plain hgd fun _ hK => by
    unfold Oper.wp execOp
    simp only [ho, hx, hy, Instr.storeAt, Instr.sureAddr, Sem.run_bind, Sem.run_pure, Result.andThen_ok, run_storeVar_new w ty c c' hi hs h1]
    exact hK _ _ h
/-- a struct's variable is made and filled -/
theorem wpList_alloc_store {P : Program} {ops : Array Oper} {rest : List Oper} {o1 o2 : Oper} {a : Act} {w : World} {Q : Exit → Act → World → Prop} (hg1 : o1.guard = none) (hg2 : o2.guard = none) (ty : TypeId) (ho1 : o1.op = .alloc ty) (x y : Operand) (ho2 : o2.op = .store ty x y)
    (c c' : Array Value) (hal : ∀ w : World, (Instr.alloc ty true (.tuple #[])).run P w = .ok (.pointer (some ⟨w.heap.size, 0, none⟩)) (w.alloc (.cells c ty)))
    (hx : (a.put o1.dst (.pointer (some ⟨w.heap.size, 0, none⟩))).eval x = .pointer (some ⟨w.heap.size, 0, none⟩)) (hy : (a.put o1.dst (.pointer (some ⟨w.heap.size, 0, none⟩))).eval y = .agg c') (hi : (P.info? ty).map (·.size) = some c'.size) (hs : c.size = c'.size) (h1 : c'.all (·.oneCell') = true)
    (h : wpList P ops Q rest ((a.put o1.dst (.pointer (some ⟨w.heap.size, 0, none⟩))).put o2.dst undef) (w.alloc (.cells c' ty))) : wpList P ops Q (o1 :: o2 :: rest) a w :=
  wpList_plain hg1 fun _ hK => by
    unfold Oper.wp execOp
    simp only [ho1, Sem.run_bind, Sem.run_pure, Result.andThen_ok, hal]
    exact hK _ _ (wpList_store_new hg2 ty x y ho2 c c' hx hy hi hs h1 h)
/-- a struct's load behind a guard that is met -/
theorem wpList_load_want {P : Program} {ops : Array Oper} {rest : List Oper} {op : Oper} {a : Act} {w : World} {Q : Exit → Act → World → Prop} (hw : Region.wanted op (yielded ops a.tmps) = true) (ty : TypeId) (x : Operand) (ho : op.op = .load ty x)
    (b o : Nat) (hx : a.eval x = .pointer (some ⟨b, o, none⟩)) (cs : List Value) (d : TypeDesc) (hc : w.rangeAt b o cs) (hu : P.underlying ty = some d) (hd : d.isRow = true) (hi : (P.info? ty).map (·.size) = some cs.length)
    (h : wpList P ops Q rest (a.put op.dst (.agg cs.toArray)) w) : wpList P ops Q (op :: rest) a w :=
  BigFrame.wpList_want hw fun _ hK => wp_load_mid ty x ho b o hx cs d hc hu hd hi (hK _ _ h)
/-- an operation behind a guard that need not be decided -/
theorem wpList_maybe {P : Program} {ops : Array Oper} {rest : List Oper} {o : Oper} {a : Act} {w : World} {Q : Exit → Act → World → Prop} (d : Bool) (hw : Region.wanted o (yielded ops a.tmps) = d) (v : Value)
    (hrun : d = true → (execOp a.eval o).run P w = .ok (.value v) w) (h : ∀ u : Value, (d = true → u = v) → wpList P ops Q rest (a.put o.dst u) w) : wpList P ops Q (o :: rest) a w := by
  cases d with
  | true =>
    refine BigFrame.wpList_want hw fun _ hK => ?_
    unfold Oper.wp
    rw [hrun rfl]
    exact hK _ _ (h v fun _ => rfl)
  | false =>
    unfold wpList
    rw [if_neg (by rw [hw]; decide)]
    exact h undef fun e => by cases e
/-- an operation that leaves a value -/
theorem wpList_val {P : Program} {ops : Array Oper} {rest : List Oper} {o : Oper} {a : Act} {w : World} {Q : Exit → Act → World → Prop} (hg : o.guard = none) (v : Value)
    (hrun : (execOp a.eval o).run P w = .ok (.value v) w) (h : wpList P ops Q rest (a.put o.dst v) w) : wpList P ops Q (o :: rest) a w :=
  wpList_plain hg fun _ hK => by
    unfold Oper.wp
    rw [hrun]
    exact hK _ _ h
theorem Box.range {w : World} {b : Nat} {cs : List Value} (h : Box w b cs) (off n : Nat) : w.rangeAt b off ((cs.drop off).take n) := fun j v hv => by
  rw [List.getElem?_take] at hv
  split at hv
  · rw [List.getElem?_drop] at hv
    exact h.cell _ hv
  · cases hv
theorem Bag.range {w W : World} {l : List (Nat × List Value)} (h : Bag w W l) (i : Nat) {a : Nat} {cs : List Value} (hi : l[i]? = some (a, cs)) (off n : Nat) : W.rangeAt a off ((cs.drop off).take n) := (h.box i hi).range off n
end Go.Bx
