/- Layer 11: order.Needed. -/
import Derived.Test.YtmhfabekmgcjnaaDoorOb
import Derived.Test.YtmhfabekmgcjnaaDoorOrM
import Derived.Deep.LoopGhost
namespace Go.Proofs.YtmhfabekmgcjnaaDoor
open Go.RowKit Go.Bx Go.Od Go.Hp
attribute [local go_sem ↓] Go.wp_at_zero Go.wp_at_succ
set_option linter.unusedVariables false

/-! ### plain -/
/-- r comes to i by way of inputs -/
inductive Rch (ins : List (List Int)) (r : Nat) : Nat → Prop
  | base : Rch ins r r
  | step {i k : Nat} : Rch ins r i → k ∈ inp ins i → Rch ins r k
def Ned (ins : List (List Int)) (out : Int) (i : Nat) : Prop := 0 ≤ out ∧ out < ins.length ∧ Rch ins out.toNat i
open Classical in
noncomputable def ned (ins : List (List Int)) (out : Int) (i : Nat) : Bool := decide (Ned ins out i)
open Classical in
theorem ned_iff (ins : List (List Int)) (out : Int) (i : Nat) : ned ins out i = true ↔ Ned ins out i := by
  unfold ned
  exact decide_eq_true_iff
theorem Ned.lt {ins : List (List Int)} {out : Int} {i : Nat} (h : Ned ins out i) : i < ins.length := by
  obtain ⟨h0, h1, h⟩ := h
  cases h with
  | base => omega
  | step _ hk => exact ((inp_mem _ _ _).1 hk).1
theorem Ned.next {ins : List (List Int)} {out : Int} {i k : Nat} (h : Ned ins out i) (hk : k ∈ inp ins i) : Ned ins out k := ⟨h.1, h.2.1, .step h.2.2 hk⟩
/-- the marks S, those still to be looked at T -/
structure NI (ins : List (List Int)) (r : Nat) (S : Nat → Bool) (T : List Nat) : Prop where
  sound : ∀ i, S i = true → Ned ins r i
  todo : ∀ i ∈ T, S i = true
  nodup : T.Nodup
  root : S r = true
  closed : ∀ i, S i = true → i ∉ T → ∀ k ∈ inp ins i, S k = true
/-- while node k's inputs are looked at: j of them have been -/
structure NJ (ins : List (List Int)) (r : Nat) (k j : Nat) (S : Nat → Bool) (T : List Nat) : Prop where
  sound : ∀ i, S i = true → Ned ins r i
  todo : ∀ i ∈ T, S i = true
  nodup : T.Nodup
  root : S r = true
  at_ : S k = true
  closed : ∀ i, S i = true → i ∉ T → i ≠ k → ∀ x ∈ inp ins i, S x = true
  part : ∀ x ∈ (inp ins k).take j, S x = true
def cntF (n : Nat) (S : Nat → Bool) : Nat := ((List.range n).filter fun i => !S i).length
theorem cntF_set {n : Nat} {S : Nat → Bool} {x : Nat} (hx : x < n) (h : S x = false) : cntF n (fun i => if i = x then true else S i) + 1 = cntF n S := by
  unfold cntF
  induction n with
  | zero => omega
  | succ n ih =>
    rw [List.range_succ, List.filter_append, List.filter_append, List.length_append, List.length_append]
    by_cases e : x = n
    · subst e
      have e1 : (List.range x).filter (fun i => !(if i = x then true else S i)) = (List.range x).filter fun i => !S i := List.filter_congr fun i hi => by
        have : i ≠ x := by have := List.mem_range.1 hi; omega
        simp [this]
      rw [e1]
      simp [h]
    · have := ih (by omega)
      have e1 : n ≠ x := fun h => e h.symm
      have e2 : [n].filter (fun i => !(if i = x then true else S i)) = [n].filter fun i => !S i := List.filter_congr fun i hi => by
        simp at hi
        subst hi
        simp [e1]
      rw [e2]
      omega
theorem NI.start {ins : List (List Int)} {r : Nat} (hr : r < ins.length) : NI ins r (fun i => decide (i = r)) [r] where
  sound := fun i hi => by
    have : i = r := by simpa using hi
    subst this
    exact ⟨by omega, by omega, .base⟩
  todo := fun i hi => by simpa using hi
  nodup := by simp
  root := by simp
  closed := fun i hi hn => by
    have : i = r := by simpa using hi
    subst this
    exact absurd (by simp) hn
theorem NI.pop {ins : List (List Int)} {r : Nat} {S : Nat → Bool} {T : List Nat} {k : Nat} (h : NI ins r S (T ++ [k])) : NJ ins r k 0 S T where
  sound := h.sound
  todo := fun i hi => h.todo i (by simp [hi])
  nodup := by
    have := h.nodup
    rw [List.nodup_append] at this
    exact this.1
  root := h.root
  at_ := h.todo k (by simp)
  closed := fun i hi hn hne => h.closed i hi (by simp [hn, hne])
  part := fun x hx => by simp at hx
theorem take_more {l : List Nat} {j x : Nat} (h : l[j]? = some x) : l.take (j + 1) = l.take j ++ [x] := by
  have := List.getElem?_eq_some_iff.1 h
  rw [List.take_succ_eq_append_getElem this.1, this.2]
theorem NJ.old {ins : List (List Int)} {r k j : Nat} {S : Nat → Bool} {T : List Nat} {x : Nat} (h : NJ ins r k j S T) (hx : (inp ins k)[j]? = some x) (hs : S x = true) : NJ ins r k (j + 1) S T :=
  ⟨h.sound, h.todo, h.nodup, h.root, h.at_, h.closed, fun y hy => by
    rw [take_more hx] at hy
    rcases List.mem_append.1 hy with hy | hy
    · exact h.part y hy
    · simp at hy; subst hy; exact hs⟩
theorem NJ.new {ins : List (List Int)} {r k j : Nat} {S : Nat → Bool} {T : List Nat} {x : Nat} (h : NJ ins r k j S T) (hx : (inp ins k)[j]? = some x) (hs : S x = false) : NJ ins r k (j + 1) (fun i => if i = x then true else S i) (T ++ [x]) := by
  have mono : ∀ i, S i = true → (if i = x then true else S i) = true := fun i hi => by split <;> simp [hi]
  refine ⟨fun i hi => ?_, fun i hi => ?_, ?_, mono _ h.root, mono _ h.at_, fun i hi hn hne y hy => ?_, fun y hy => ?_⟩
  · by_cases e : i = x
    · subst e
      exact (h.sound k h.at_).next (List.mem_of_getElem? hx)
    · simp only [if_neg e] at hi
      exact h.sound i hi
  · rcases List.mem_append.1 hi with hi | hi
    · exact mono _ (h.todo i hi)
    · simp at hi; subst hi; simp
  · rw [List.nodup_append]
    refine ⟨h.nodup, by simp, fun a ha b hb => ?_⟩
    simp at hb
    subst hb
    intro e
    subst e
    have := h.todo a ha
    rw [hs] at this
    cases this
  · have hnx : i ≠ x := fun e => hn (by simp [e])
    simp only [if_neg hnx] at hi
    exact mono _ (h.closed i hi (fun hm => hn (by simp [hm])) hne y hy)
  · rw [take_more hx] at hy
    rcases List.mem_append.1 hy with hy | hy
    · exact mono _ (h.part y hy)
    · simp at hy; subst hy; simp
theorem NJ.fin {ins : List (List Int)} {r k : Nat} {S : Nat → Bool} {T : List Nat} (h : NJ ins r k (inp ins k).length S T) : NI ins r S T :=
  ⟨h.sound, h.todo, h.nodup, h.root, fun i hi hn x hx => by
    by_cases e : i = k
    · subst e
      exact h.part x (by rw [List.take_length]; exact hx)
    · exact h.closed i hi hn e x hx⟩
theorem NI.done {ins : List (List Int)} {r : Nat} {S : Nat → Bool} (h : NI ins r S []) (i : Nat) : S i = ned ins r i := by
  rw [Bool.eq_iff_iff]
  rw [ned_iff]
  constructor
  · exact h.sound i
  · rintro ⟨_, _, h3⟩
    rw [Int.toNat_natCast] at h3
    induction h3 with
    | base => exact h.root
    | step _ hk ih => exact h.closed _ ih (by simp) _ hk
theorem NI.short {ins : List (List Int)} {r : Nat} {S : Nat → Bool} {T : List Nat} (h : NI ins r S T) : T.length ≤ ins.length := len_le h.nodup fun i hi => (h.sound i (h.todo i hi)).lt
theorem NJ.short {ins : List (List Int)} {r k j : Nat} {S : Nat → Bool} {T : List Nat} (h : NJ ins r k j S T) : T.length ≤ ins.length := len_le h.nodup fun i hi => (h.sound i (h.todo i hi)).lt
theorem ned_out {ins : List (List Int)} {out : Int} (h : ¬ (0 ≤ out ∧ out < ins.length)) (i : Nat) : ned ins out i = false := by
  cases e : ned ins out i with
  | false => rfl
  | true =>
    obtain ⟨h1, h2, _⟩ := (ned_iff _ _ _).1 e
    exact absurd ⟨h1, h2⟩ h

/-! ### in memory -/
/-- a row of truths -/
def bc (n : Nat) (S : Nat → Bool) : List Value := (List.range n).map fun r => Value.bool (S r)
theorem bc_get {n r : Nat} (S : Nat → Bool) (h : r < n) : (bc n S)[r]? = some (.bool (S r)) := by simp [bc, h]
theorem bc_set (n u : Nat) (S : Nat → Bool) (x : Bool) : (bc n S).set u (.bool x) = bc n (fun r => if r = u then x else S r) := by
  unfold bc
  apply List.ext_getElem?
  intro j
  by_cases e : j = u
  · subst e
    by_cases hj : j < n
    · simp [hj]
    · rw [List.getElem?_eq_none (by simp; omega), List.getElem?_eq_none (by simp; omega)]
  · rw [List.getElem?_set_ne (fun h => e h.symm)]
    by_cases hj : j < n
    · simp [hj, e]
    · rw [List.getElem?_eq_none (by simp; omega), List.getElem?_eq_none (by simp; omega)]
theorem bc_congr {n : Nat} {f g : Nat → Bool} (h : ∀ r, r < n → f r = g r) : bc n f = bc n g := by
  unfold bc
  apply List.map_congr_left
  intro r hr
  rw [h r (List.mem_range.1 hr)]
theorem bc_false (n : Nat) : List.replicate n (Value.bool false) = bc n (fun _ => false) := by
  unfold bc
  apply List.ext_getElem?
  intro j
  by_cases hj : j < n
  · simp [hj]
  · rw [List.getElem?_eq_none (by simp; omega), List.getElem?_eq_none (by simp; omega)]
theorem infoB : (Tryd.prog.info? 4).map (fun i => (i.zero, i.size, i.bytes)) = some (some (.bool false), 1, 1) := by kernel_rfl
theorem makeB {w w2 : World} {nv : Value} {out : Int} {n L : Nat} (hL : L = w.heap.size + 1) (hown : w2.ownsRow (w.heap.size + 1) 4 1 (.slice (some ⟨L, 0, none⟩) n n) n (madeCells (Value.bool false).cells (n * 1)).toList)
    (hg : (w.alloc (.cells #[nv, .int .i64 out] 24)).grownBy w2 none) : Box w2 (w.heap.size + 1) (bc n fun _ => false) ∧ Box w2 w.heap.size [nv, .int .i64 out] ∧ Below w.heap.size w w2 := by
  subst hL
  have hb := box_own hown
  have e : (madeCells (Value.bool false).cells (n * 1)).toList = List.replicate n (.bool false) := by
    rw [Nat.mul_one]
    exact toList_madeCells_one _ _
  rw [e, bc_false] at hb
  exact ⟨hb, (Box.new w _ _).grown' hg (by simp), (below_alloc w _).grown hg (by rw [size_alloc]; omega) (fun k hk => by cases hk)⟩
/-- what Needed leaves -/
def NePost (w : World) (n : Nat) (S : Nat → Bool) (e : Ending) (w' : World) : Prop := ∃ O, w.heap.size ≤ O ∧ e = .returned (.slice (some ⟨O, 0, none⟩) n n) ∧ Box w' O (bc n S) ∧ Below w.heap.size w w'
/-- between its rounds -/
structure NR (w : World) (nv : Value) (out : Int) (n : Nat) (S : Nat → Bool) (tv : Value) (T : List Nat) (wr : World) : Prop where
  gb : Box wr w.heap.size [nv, .int .i64 out]
  ob : Box wr (w.heap.size + 1) (bc n S)
  to : OwnP wr (w.heap.size + 2) tv (ofN T)
  below : Below w.heap.size w wr
section
variable {w wr w' : World} {nv tv lv : Value} {out : Int} {n : Nat} {S : Nat → Bool} {T l : List Nat}
theorem NR.call (h : NR w nv out n S tv T wr) (hb : Below wr.heap.size wr w') : NR w nv out n S tv T w' := ⟨h.gb.call hb, h.ob.call hb, h.to.below hb, h.below.trans (hb.mono h.below.size)⟩
theorem NR.mark (h : NR w nv out n S tv T wr) (x : Nat) (b : Bool) : NR w nv out n (fun i => if i = x then b else S i) tv T (wr.setCell ⟨w.heap.size + 1, x, none⟩ (.bool b)) :=
  ⟨h.gb.set (by simp) _, by rw [← bc_set]; exact h.ob.self _ _, own_set h.to (by simp) _, h.below.setCell (by simp) _⟩
theorem NR.app {w8 : World} {o : Obj} {x g8 c8 : Nat} (h : NR w nv out n S tv T wr) (hown : w8.ownsRow (w.heap.size + 2) 3 1 (.slice (some ⟨g8, 0, none⟩) (T.length + 1) c8) (T.length + 1) ((ofN T).map (Value.int .i64) ++ [.int .i64 x])) (hg : (wr.alloc o).grownBy w8 tv.ownBlock) :
    NR w nv out n S (.slice (some ⟨g8, 0, none⟩) (T.length + 1) c8) (T ++ [x]) w8 := by
  have hge := row_ge h.to
  have h' := h.call (below_alloc wr o)
  refine ⟨h'.gb.grown' hg fun e => by have := (hge _ e).1; omega, h'.ob.grown' hg fun e => by have := (hge _ e).1; omega, ?_, h'.below.grown hg h'.below.size fun k hk => by have := (hge _ hk).1; omega⟩
  unfold OwnP
  rw [ofN_app, List.map_append, List.length_append, ofN_len]
  exact hown
theorem NR.row {w8 : World} {o : Obj} {g8 c8 : Nat} (hl : OwnP wr (w.heap.size + 2) lv (ofN l)) (hg : (wr.alloc o).grownBy w8 tv.ownBlock) (hat : tv.ownBlock = some g8 ∨ g8 = wr.heap.size + 1) (hap : ∀ k, lv.ownBlock = some k → tv.ownBlock ≠ some k) :
    OwnP w8 (w.heap.size + 2) lv (ofN l) ∧ ∀ k, lv.ownBlock = some k → (Value.slice (some ⟨g8, 0, none⟩) (T.length + 1) c8).ownBlock ≠ some k := by
  refine ⟨World.ownsRow.kept (hl.alloc o) hg ?_, fun k hk e => ?_⟩
  · cases e : lv.ownBlock with
    | none => exact .inl rfl
    | some j => exact .inr fun e2 => hap j e e2.symm
  · simp [Value.ownBlock] at e
    subst e
    rcases hat with q | q
    · exact hap g8 hk q
    · have := (row_ge hl g8 hk).2; omega
theorem NR.app2 {w8 : World} {o : Obj} {x g8 c8 q : Nat} (hq : q = T.length) (h : NR w nv out n S tv T wr) (hl : OwnP wr (w.heap.size + 2) lv (ofN l)) (hap : ∀ k, lv.ownBlock = some k → tv.ownBlock ≠ some k)
    (hown : w8.ownsRow (w.heap.size + 2) 3 1 (.slice (some ⟨g8, 0, none⟩) (q + 1) c8) (q + 1) ((ofN T).map (Value.int .i64) ++ [.int .i64 x])) (hg : (wr.alloc o).grownBy w8 tv.ownBlock) (hat : tv.ownBlock = some g8 ∨ g8 = wr.heap.size + 1) :
    NR w nv out n S (.slice (some ⟨g8, 0, none⟩) (q + 1) c8) (T ++ [x]) w8 ∧ OwnP w8 (w.heap.size + 2) lv (ofN l) ∧ ∀ k, lv.ownBlock = some k → (Value.slice (some ⟨g8, 0, none⟩) (q + 1) c8).ownBlock ≠ some k := by
  subst hq
  exact ⟨h.app hown hg, NR.row (T := T) (c8 := c8) hl hg hat hap⟩
end
theorem newP (W : World) (B : Nat) (x : Int) (hB : B ≤ W.heap.size) : OwnP (W.alloc (.cells #[.int .i64 x] 3)) B (.slice (some ⟨W.heap.size, 0, none⟩) 1 1) [x] :=
  ⟨rfl, .inr ⟨W.heap.size, 1, _, rfl, hB, alloc_at W _, Nat.le_refl _, by decide, rfl, rfl⟩⟩
end Go.Proofs.YtmhfabekmgcjnaaDoor
