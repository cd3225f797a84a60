/- What values stand for: numbers, truths, slices of whatever, within a footprint of blocks; how that is read off the row's reading of an argument; and that it stays. Plain: over any program. -/
import Derived.Test.YtmhfabekmgcjnaaDoorBase
import Derived.ProofKit
import Derived.OpenShut
import Derived.ChangeOld
namespace Go.Bx
open Go.RowKit
set_option linter.unusedVariables false

/-- blocks of F hold what they held -/
def Same (F : Nat → Prop) (w w' : World) : Prop := ∀ b, F b → w'.heap[b]? = w.heap[b]?
theorem Same.refl (F : Nat → Prop) (w : World) : Same F w w := fun _ _ => rfl
theorem Same.trans {F : Nat → Prop} {a b c : World} (h : Same F a b) (k : Same F b c) : Same F a c := fun i hi => (k i hi).trans (h i hi)
theorem Same.mono {F G : Nat → Prop} {w w' : World} (h : Same F w w') (hg : ∀ b, G b → F b) : Same G w w' := fun b hb => h b (hg b hb)
theorem Same.of_below {B : Nat} {F : Nat → Prop} {w w' : World} (h : Below B w w') (hF : ∀ b, F b → b < B) : Same F w w' := fun b hb => h.block b (hF b hb)
theorem Same.cell {F : Nat → Prop} {w w' : World} (h : Same F w w') {b : Nat} (hb : F b) (o : Nat) : w'.cell? ⟨b, o, none⟩ = w.cell? ⟨b, o, none⟩ := World.cell?_of_block (w := w) (h b hb)

/-- what a reading of values is: of cells, within a footprint -/
abbrev Rep (α : Type) := (Nat → Prop) → World → List Value → α → Prop
def Rep.Ok {α : Type} (E : Rep α) : Prop := (∀ F w w' cs x, Same F w w' → E F w cs x → E F w' cs x) ∧ (∀ (F G : Nat → Prop) w cs x, (∀ b, F b → G b) → E F w cs x → E G w cs x)
theorem Rep.Ok.same {α : Type} {E : Rep α} (h : E.Ok) {F : Nat → Prop} {w w' : World} {cs : List Value} {x : α} (hs : Same F w w') (he : E F w cs x) : E F w' cs x := h.1 _ _ _ _ _ hs he
theorem Rep.Ok.mono {α : Type} {E : Rep α} (h : E.Ok) {F G : Nat → Prop} {w : World} {cs : List Value} {x : α} (hg : ∀ b, F b → G b) (he : E F w cs x) : E G w cs x := h.2 _ _ _ _ _ hg he

def In64 (n : Int) : Prop := -9223372036854775808 ≤ n ∧ n ≤ 9223372036854775807
def RInt : Rep Int := fun _ _ cs n => cs = [.int .i64 n] ∧ In64 n
def RU8 : Rep Int := fun _ _ cs n => cs = [.int .u8 n] ∧ 0 ≤ n ∧ n ≤ 255
def RBool : Rep Bool := fun _ _ cs b => cs = [.bool b]
theorem RInt.ok : RInt.Ok := ⟨fun _ _ _ _ _ _ h => h, fun _ _ _ _ _ _ h => h⟩
theorem RU8.ok : RU8.Ok := ⟨fun _ _ _ _ _ _ h => h, fun _ _ _ _ _ _ h => h⟩
theorem RBool.ok : RBool.Ok := ⟨fun _ _ _ _ _ _ h => h, fun _ _ _ _ _ _ h => h⟩

/-- the element's cells lie from an address on -/
def LiesAt (w : World) (b o : Nat) (cs : List Value) : Prop := ∀ j u, cs[j]? = some u → w.cell? ⟨b, o + j, none⟩ = some u
theorem LiesAt.same {F : Nat → Prop} {w w' : World} {b o : Nat} {cs : List Value} (h : LiesAt w b o cs) (hs : Same F w w') (hb : F b) : LiesAt w' b o cs := fun j u hu => (hs.cell hb _).trans (h j u hu)

/-- a slice value reads as a list -/
def SlOf {α : Type} (E : Rep α) (sz : Nat) (F : Nat → Prop) (w : World) (v : Value) (xs : List α) : Prop :=
  ∃ a cap, v = .slice a xs.length cap ∧ xs.length ≤ cap ∧ cap ≤ maxLen ∧
    (xs = [] ∨ ∃ b o, a = some ⟨b, o, none⟩ ∧ F b ∧ ∀ i x, xs[i]? = some x → ∃ cs, cs.length = sz ∧ LiesAt w b (o + i * sz) cs ∧ E F w cs x)
def RSl {α : Type} (E : Rep α) (sz : Nat) : Rep (List α) := fun F w cs xs => ∃ v, cs = [v] ∧ SlOf E sz F w v xs
theorem SlOf.same {α : Type} {E : Rep α} {sz : Nat} (hE : E.Ok) {F : Nat → Prop} {w w' : World} {v : Value} {xs : List α} (hs : Same F w w') (h : SlOf E sz F w v xs) : SlOf E sz F w' v xs := by
  obtain ⟨a, cap, hv, h1, h2, h3⟩ := h
  refine ⟨a, cap, hv, h1, h2, ?_⟩
  rcases h3 with h3 | ⟨b, o, ha, hF, h3⟩
  · exact .inl h3
  · refine .inr ⟨b, o, ha, hF, fun i x hx => ?_⟩
    obtain ⟨cs, hl, hc, he⟩ := h3 i x hx
    exact ⟨cs, hl, hc.same hs hF, hE.same hs he⟩
theorem SlOf.mono {α : Type} {E : Rep α} {sz : Nat} (hE : E.Ok) {F G : Nat → Prop} {w : World} {v : Value} {xs : List α} (hg : ∀ b, F b → G b) (h : SlOf E sz F w v xs) : SlOf E sz G w v xs := by
  obtain ⟨a, cap, hv, h1, h2, h3⟩ := h
  refine ⟨a, cap, hv, h1, h2, ?_⟩
  rcases h3 with h3 | ⟨b, o, ha, hF, h3⟩
  · exact .inl h3
  · refine .inr ⟨b, o, ha, hg b hF, fun i x hx => ?_⟩
    obtain ⟨cs, hl, hc, he⟩ := h3 i x hx
    exact ⟨cs, hl, hc, hE.mono hg he⟩
theorem RSl.ok {α : Type} {E : Rep α} {sz : Nat} (hE : E.Ok) : (RSl E sz).Ok :=
  ⟨fun _ _ _ _ _ hs ⟨v, hv, h⟩ => ⟨v, hv, h.same hE hs⟩, fun _ _ _ _ _ hg ⟨v, hv, h⟩ => ⟨v, hv, h.mono hE hg⟩⟩
theorem SlOf.len_le {α : Type} {E : Rep α} {sz : Nat} {F : Nat → Prop} {w : World} {v : Value} {xs : List α} (h : SlOf E sz F w v xs) : xs.length ≤ 9223372036854775807 := by
  obtain ⟨a, cap, hv, h1, h2, h3⟩ := h
  unfold maxLen at h2
  omega

/-- a slice of ints (or bools, bytes): its cells -/
theorem SlOf.ints {F : Nat → Prop} {w : World} {v : Value} {xs : List Int} (h : SlOf RInt 1 F w v xs) :
    ∃ a cap, v = .slice a xs.length cap ∧ xs.length ≤ cap ∧ cap ≤ maxLen ∧ (∀ x ∈ xs, In64 x) ∧
      ∀ i, i < xs.length → ∃ b o, a = some ⟨b, o, none⟩ ∧ F b ∧ ∀ j, j < xs.length → w.cell? ⟨b, o + j, none⟩ = some (.int .i64 (xs.getD j 0)) := by
  obtain ⟨a, cap, hv, h1, h2, h3⟩ := h
  refine ⟨a, cap, hv, h1, h2, ?_, ?_⟩
  · intro x hx
    rcases h3 with h3 | ⟨b, o, ha, hF, h3⟩
    · subst h3; cases hx
    · obtain ⟨i, hi⟩ := List.getElem?_of_mem hx
      obtain ⟨cs, _, _, he⟩ := h3 i x hi
      exact he.2
  · intro i hi
    rcases h3 with h3 | ⟨b, o, ha, hF, h3⟩
    · subst h3; simp at hi
    · refine ⟨b, o, ha, hF, fun j hj => ?_⟩
      have hx : xs[j]? = some xs[j] := List.getElem?_eq_getElem hj
      obtain ⟨cs, hl, hc, he⟩ := h3 j _ hx
      obtain ⟨rfl, _⟩ := he
      have := hc 0 (.int .i64 xs[j]) rfl
      simp only [Nat.mul_one, Nat.add_zero] at this
      rw [this]
      simp [hj]
theorem SlOf.bools {F : Nat → Prop} {w : World} {v : Value} {xs : List Bool} (h : SlOf RBool 1 F w v xs) :
    ∃ a cap, v = .slice a xs.length cap ∧ xs.length ≤ cap ∧ cap ≤ maxLen ∧
      ∀ i, i < xs.length → ∃ b o, a = some ⟨b, o, none⟩ ∧ F b ∧ ∀ j, j < xs.length → w.cell? ⟨b, o + j, none⟩ = some (.bool (xs.getD j false)) := by
  obtain ⟨a, cap, hv, h1, h2, h3⟩ := h
  refine ⟨a, cap, hv, h1, h2, ?_⟩
  intro i hi
  rcases h3 with h3 | ⟨b, o, ha, hF, h3⟩
  · subst h3; simp at hi
  · refine ⟨b, o, ha, hF, fun j hj => ?_⟩
    have hx : xs[j]? = some xs[j] := List.getElem?_eq_getElem hj
    obtain ⟨cs, hl, hc, he⟩ := h3 j _ hx
    cases he
    have := hc 0 (.bool xs[j]) rfl
    simp only [Nat.mul_one, Nat.add_zero] at this
    rw [this]
    simp [hj]

/-! ### rows that the call owns -/
theorem owns_below {w w' : World} {base : Nat} {e : TypeId} {size : Nat} {v : Value} {n : Nat} {xs : List Value} (h : w.ownsRow base e size v n xs) {B : Nat} (hb : Below B w w') (hB : w.heap.size ≤ B) : w'.ownsRow base e size v n xs := by
  refine ⟨h.1, ?_⟩
  rcases h.2 with hn | ⟨g, cap, cur, rfl, hbg, hgg, rest⟩
  · exact .inl hn
  · refine .inr ⟨g, cap, cur, rfl, hbg, ?_, rest⟩
    have := (Array.getElem?_eq_some_iff.1 hgg).1
    rw [hb.block g (by omega)]
    exact hgg
theorem Box.grown {w w' : World} {b : Nat} {cs : List Value} {base : Nat} {e : TypeId} {size : Nat} {v : Value} {n : Nat} {xs : List Value} (h : Box w b cs) (hg : w.grownBy w' v.ownBlock) (ho : w.ownsRow base e size v n xs) (hlt : b < base) : Box w' b cs := by
  refine h.of_block (hg.block b h.lt ?_)
  intro hc
  have := (ho.lt b hc.symm).1
  omega
theorem Box.grown' {w w' : World} {b : Nat} {cs : List Value} {row : Option Nat} (h : Box w b cs) (hg : w.grownBy w' row) (hne : row ≠ some b) : Box w' b cs :=
  h.of_block (hg.block b h.lt fun hc => hne hc.symm)
theorem below_grown {B : Nat} {a w w' : World} {base : Nat} {e : TypeId} {size : Nat} {v : Value} {n : Nat} {xs : List Value} (h : Below B a w) (hg : w.grownBy w' v.ownBlock) (ho : w.ownsRow base e size v n xs) (hB : B ≤ base) (hs : B ≤ w.heap.size) : Below B a w' :=
  h.grown hg hs fun k hk => Nat.le_trans hB (ho.lt k hk).1
/-- another row of cells is written: what is owned stays, if it is not that row -/
theorem owns_set {w : World} {base : Nat} {e : TypeId} {size : Nat} {v : Value} {n : Nat} {xs : List Value} (h : w.ownsRow base e size v n xs) {p : Addr} (hp : p.block < base) (u : Value) : (w.setCell p u).ownsRow base e size v n xs := ownsRow_setCell_below h hp u

/-! ### from the row's reading -/
section
variable {H : Type} {enc : TypeId × Value → H} {P : Program} {W : World}
/-- the reading of type t, of whatever cells, is E within the world's blocks -/
def Reads {α : Type} (enc : TypeId × Value → H) (P : Program) (W : World) (t : TypeId) (E : Rep α) : Prop :=
  ∀ (fuel : Nat) (cs : List Value) (x : DataW H × List MemPlace), DataW.trod enc P W 0 (fun _ => true) true fuel t cs = some x → ∃ y, E (· < W.heap.size) W cs y

theorem wf64 {n : Int} (h : (Lit.int .i64 n).wf = true) : In64 n := by
  have h1 : decide (IntKind.i64.min ≤ n ∧ n ≤ IntKind.i64.max) = true := by simpa [Lit.wf] using h
  have h2 : IntKind.i64.min ≤ n ∧ n ≤ IntKind.i64.max := of_decide_eq_true h1
  exact h2
theorem wf8 {n : Int} (h : (Lit.int .u8 n).wf = true) : 0 ≤ n ∧ n ≤ 255 := by
  have h1 : decide (IntKind.u8.min ≤ n ∧ n ≤ IntKind.u8.max) = true := by simpa [Lit.wf] using h
  have h2 : IntKind.u8.min ≤ n ∧ n ≤ IntKind.u8.max := of_decide_eq_true h1
  exact h2
theorem reads_int {t : TypeId} (ht : P.underlying t = some (.int .i64)) : Reads enc P W t RInt := fun fuel cs x h => by
  obtain ⟨n, rfl, _, hw⟩ := DataW.trod_int ht h
  exact ⟨n, rfl, wf64 hw⟩
theorem reads_u8 {t : TypeId} (ht : P.underlying t = some (.int .u8)) : Reads enc P W t RU8 := fun fuel cs x h => by
  obtain ⟨n, rfl, _, hw⟩ := DataW.trod_int ht h
  exact ⟨n, rfl, wf8 hw⟩
theorem reads_bool {t : TypeId} (ht : P.underlying t = some .bool) : Reads enc P W t RBool := fun fuel cs x h => by
  obtain ⟨b, rfl, _⟩ := DataW.trod_bool ht h
  exact ⟨b, rfl⟩
theorem lt_of_cell {w : World} {a : Addr} {v : Value} (h : w.cell? a = some v) : a.block < w.heap.size := by
  unfold World.cell? at h
  split at h
  · rename_i c _ _ he
    exact (Array.getElem?_eq_some_iff.1 he).1
  · cases h
theorem list_of {α : Type} {p : Nat → α → Prop} (n : Nat) (h : ∀ i, i < n → ∃ x, p i x) : ∃ xs : List α, xs.length = n ∧ ∀ i x, xs[i]? = some x → p i x := by
  induction n with
  | zero => exact ⟨[], rfl, fun i x hx => by simp at hx⟩
  | succ n ih =>
    obtain ⟨xs, hl, hx⟩ := ih fun i hi => h i (by omega)
    obtain ⟨y, hy⟩ := h n (by omega)
    refine ⟨xs ++ [y], by simp [hl], fun i x hi => ?_⟩
    by_cases hin : i < n
    · rw [List.getElem?_append_left (by omega)] at hi; exact hx i x hi
    · have hlt : i < (xs ++ [y]).length := (List.getElem?_eq_some_iff.1 hi).1
      simp [hl] at hlt
      have : i = n := by omega
      subst this
      rw [List.getElem?_append_right (by omega), hl] at hi
      simp at hi
      subst hi
      exact hy
theorem reads_slice {α : Type} {t e : TypeId} {E : Rep α} {sz : Nat} (ht : P.underlying t = some (.slice e)) (hsz : P.cellsOf e = sz) (hpos : 0 < sz) (he : Reads enc P W e E) :
    Reads enc P W t (RSl E sz) := fun fuel cs x h => by
  rcases DataW.trod_slice ht h with ⟨rfl, _⟩ | ⟨a, len, cap, elems, rest, n, _, rfl, _, hb, hl, hm, hlen, hel, _⟩
  · exact ⟨[], _, rfl, none, 0, rfl, Nat.le_refl _, by decide, .inl rfl⟩
  · have hall : ∀ i, i < len → ∃ y : α, ∃ cs, cs.length = sz ∧ (∀ j u, cs[j]? = some u → W.cell? ((a.add (i * sz)).add j) = some u) ∧ E (· < W.heap.size) W cs y := by
      intro i hi
      have h1 := hel i hi
      rw [hsz] at h1
      rw [List.getElem?_eq_getElem (by omega), Option.bind_eq_some_iff] at h1
      obtain ⟨cs, hcs, hr⟩ := h1
      obtain ⟨y, hy⟩ := he n cs _ hr
      have hc := World.cells?_some hcs
      refine ⟨y, cs, hc.2.1, fun j u hu => ?_, hy⟩
      have hj : j < sz := by
        have := (List.getElem?_eq_some_iff.1 hu).1
        have := hc.2.1
        omega
      exact (hc.2.2 j hj).trans hu
    obtain ⟨xs, hxl, hx⟩ := list_of len hall
    refine ⟨xs, _, rfl, some a, cap, by rw [hxl], by omega, hm, ?_⟩
    by_cases h0 : len = 0
    · left; exact List.eq_nil_of_length_eq_zero (by omega)
    · right
      obtain ⟨b, o, spot⟩ := a
      have hspot : spot = none ∧ b < W.heap.size := by
        obtain ⟨y, cs, hcl, hc, _⟩ := hall 0 (by omega)
        have hu : cs[0]? = some cs[0] := List.getElem?_eq_getElem (by omega)
        have := hc 0 _ hu
        simp only [Nat.zero_mul, Addr.add, if_true] at this
        exact ⟨World.cell?_spot this, lt_of_cell this⟩
      obtain ⟨rfl, hlt⟩ := hspot
      refine ⟨b, o, rfl, hlt, fun i x hi => ?_⟩
      obtain ⟨cs, hcl, hc, hE⟩ := hx i x hi
      refine ⟨cs, hcl, fun j u hu => ?_, hE⟩
      have := hc j u hu
      rw [Go.WideShapes.add_plain, Go.WideShapes.add_plain] at this
      exact this
/-- a struct's reading: a field's -/
theorem reads_field {α : Type} {t : TypeId} {fs : Array Field} {fuel : Nat} {cs : List Value} {x : DataW H × List MemPlace} (ht : P.underlying t = some (.struct fs))
    (h : DataW.trod enc P W 0 (fun _ => true) true fuel t cs = some x) (i : Nat) {ft : TypeId} {off n : Nat} (hi : (fs[i]?).map (fun f => (f.type, f.offset)) = some (ft, off)) (hn : P.cellsOf ft = n) {E : Rep α} (he : Reads enc P W ft E) :
    ∃ y, E (· < W.heap.size) W ((cs.drop off).take n) y := by
  obtain ⟨f, hf0, hfe⟩ := Option.map_eq_some_iff.1 hi
  simp only [Prod.mk.injEq] at hfe
  obtain ⟨rfl, rfl⟩ := hfe
  subst hn
  obtain ⟨xs, n, _, _, hl, hxl, hf⟩ := DataW.trod_struct ht h
  have h1 := hf i f hf0
  have hlt : i < xs.length := by rw [hxl]; exact (Array.getElem?_eq_some_iff.1 hf0).1
  rw [List.getElem?_eq_getElem hlt] at h1
  exact he n _ _ h1
theorem struct_len {t : TypeId} {fs : Array Field} {fuel : Nat} {cs : List Value} {x : DataW H × List MemPlace} (ht : P.underlying t = some (.struct fs))
    (h : DataW.trod enc P W 0 (fun _ => true) true fuel t cs = some x) : cs.length = P.cellsOf t := (DataW.trod_struct ht h).choose_spec.choose_spec.2.2.1
/-- an argument of a struct's type: its cells -/
theorem arg_struct {t : TypeId} {fs : Array Field} {base : Nat} {v : Value} (ht : P.underlying t = some (.struct fs)) (hv : Value.okWide P W .any base t v) : ∃ cs : Array Value, v = .agg cs := by
  unfold Value.okWide at hv
  rw [ht] at hv
  obtain ⟨cs, h, _⟩ := hv
  exact ⟨cs, h⟩
theorem agg_of {v : Value} {cs : Array Value} {l : List Value} (h : v = .agg cs) (hl : v.cells.toList = l) : v = .agg l.toArray := by
  subst h
  simp [Value.cells] at hl
  subst hl
  simp
end
end Go.Bx
