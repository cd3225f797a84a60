/- Layer 11: the heap's methods. -/
import Derived.Test.YtfjeohnigikmoaaDoorRead
import Derived.Test.YtfjeohnigikmoaaDoorRows
import Derived.Test.YtfjeohnigikmoaaDoorEachR
import Derived.Test.YtfjeohnigikmoaaDoorHeapL
import Derived.Deep.RegionWith
import Derived.Deep.DrawnRows
import Derived.Deep.AppendLies
import Derived.Laws.OwnMore
import Derived.OneCell
import Derived.Deep.RegionLaw
namespace Go.Proofs.YtfjeohnigikmoaaDoor
open Go.RowKit Go.Bx
attribute [local go_sem ↓] Go.wp_at_zero Go.wp_at_succ
set_option linter.unusedVariables false

/-- places in memory: the row is one's own, from B on -/
def OwnP (w : World) (B : Nat) (v : Value) (xs : List Int) : Prop := w.ownsRow B 3 1 v xs.length (xs.map (Value.int .i64))
theorem OwnP.below {w w' : World} {B : Nat} {v : Value} {xs : List Int} (h : OwnP w B v xs) (hb : Below w.heap.size w w') : OwnP w' B v xs := owns_below h hb (Nat.le_refl _)
theorem OwnP.form {w : World} {B : Nat} {v : Value} {gs : List Int} (h : OwnP w B v gs) : (v = .slice none 0 0 ∧ gs = []) ∨ ∃ g cap, v = .slice (some ⟨g, 0, none⟩) gs.length cap ∧ B ≤ g ∧ g < w.heap.size ∧ gs.length ≤ cap ∧ cap ≤ maxLen ∧
    (∃ cur, w.heap[g]? = some (.cells cur 3 (0, 0))) ∧ (∀ j, w.frozen? ⟨g, j, none⟩ = false) ∧ ∀ j, j < gs.length → w.cell? ⟨g, j, none⟩ = some (.int .i64 (gs.getD j 0)) := by
  have h' : w.ownsRow B 3 1 v gs.length (gs.map (Value.int .i64)) := h
  rcases h'.2 with ⟨hv, hn⟩ | ⟨g, cap, cur, hv, hB, hblk, hle, hcap, hsz, htk⟩
  · exact .inl ⟨hv, List.eq_nil_of_length_eq_zero hn⟩
  · subst hv
    refine .inr ⟨g, cap, rfl, hB, (Array.getElem?_eq_some_iff.1 hblk).1, hle, hcap, ⟨cur, hblk⟩, World.ownsRow.frozenAt h', fun j hj => ?_⟩
    rw [World.ownsRow.cellAt h' j (by omega)]
    simp [hj]

set_option maxHeartbeats 800000 in
theorem len_c (a : Option Addr) (n c : Nat) (w : World) : Calls Tryd.prog 37 #[.slice a n c] w (PPost w (.int .i64 n)) := by
  go_enter Tryd.func37, Tryd.ntmps37
  go_wp2_with fail
  go_ret
  exact ⟨rfl, Below.refl _ _⟩

set_option maxHeartbeats 800000 in
theorem less_c (g c n : Nat) (x y : Int) (i j : Nat) (w : World) (hi : i < n) (hj : j < n) (hm : n ≤ 1000) (h1 : w.cell? ⟨g, i, none⟩ = some (.int .i64 x)) (h2 : w.cell? ⟨g, j, none⟩ = some (.int .i64 y)) :
    Calls Tryd.prog 71 #[.slice (some ⟨g, 0, none⟩) n c, .int .i64 i, .int .i64 j] w (PPost w (.bool (decide (x < y)))) := by
  have hi0 : (0 : Int) ≤ (i : Int) := by omega
  have hi1 : (i : Int) < (n : Int) := by omega
  have hj0 : (0 : Int) ≤ (j : Int) := by omega
  have hj1 : (j : Int) < (n : Int) := by omega
  go_enter Tryd.func71, Tryd.ntmps71
  go_wp2_with fail
  go_quiet (fail)
  go_wp2_with fail
  go_ret
  exact ⟨rfl, below_drewN (Below.refl _ _) _⟩

/-- what Swap leaves: two cells exchanged -/
def SwPost (w : World) (g : Nat) (i j : Nat) (x y : Int) (e : Ending) (w' : World) : Prop := e = .returned (.tuple #[]) ∧ ∃ n, w' = ((w.setCell ⟨g, i, none⟩ (.int .i64 y)).setCell ⟨g, j, none⟩ (.int .i64 x)).drewN n
set_option maxHeartbeats 800000 in
theorem swap_c (g c n : Nat) (x y : Int) (i j : Nat) (w : World) (hi : i < n) (hj : j < n) (hm : n ≤ 1000) (h1 : w.cell? ⟨g, i, none⟩ = some (.int .i64 x)) (h2 : w.cell? ⟨g, j, none⟩ = some (.int .i64 y)) (hf : ∀ k, w.frozen? ⟨g, k, none⟩ = false) (hne : i ≠ j) :
    Calls Tryd.prog 74 #[.slice (some ⟨g, 0, none⟩) n c, .int .i64 i, .int .i64 j] w (SwPost w g i j x y) := by
  have hi0 : (0 : Int) ≤ (i : Int) := by omega
  have hi1 : (i : Int) < (n : Int) := by omega
  have hj0 : (0 : Int) ≤ (j : Int) := by omega
  have hj1 : (j : Int) < (n : Int) := by omega
  have f1 := hf i
  have f2 := hf j
  clear hf
  go_enter Tryd.func74, Tryd.ntmps74
  go_wp2_with fail
  have d1 : (w.setCell ⟨g, i, none⟩ (.int .i64 y)).cell? ⟨g, j, none⟩ = some (.int .i64 y) := by
    exact (World.cell?_setCell_other _ ⟨g, i, none⟩ ⟨g, j, none⟩ _ (by intro h; have := congrArg Addr.off h; simp at this; omega)).trans h2
  have d2 : (w.setCell ⟨g, i, none⟩ (.int .i64 y)).frozen? ⟨g, j, none⟩ = false := by simpa using f2
  go_region
  all_goals
    go_end0
    exact ⟨rfl, 1, rfl⟩

set_option maxHeartbeats 800000 in
theorem swap_same (g c n : Nat) (x : Int) (w : World) (hi : 0 < n) (hm : n ≤ 1000) (h1 : w.cell? ⟨g, 0, none⟩ = some (.int .i64 x)) (hf : ∀ k, w.frozen? ⟨g, k, none⟩ = false) :
    Calls Tryd.prog 74 #[.slice (some ⟨g, 0, none⟩) n c, .int .i64 0, .int .i64 0] w (SwPost w g 0 0 x x) := by
  have hi1 : (0 : Int) < (n : Int) := by omega
  have f1 := hf 0
  clear hf
  go_enter Tryd.func74, Tryd.ntmps74
  go_wp2_with fail
  go_region
  all_goals
    go_end0
    exact ⟨rfl, 1, rfl⟩
theorem infoI : (Tryd.prog.info? 3).map (fun i => (i.zero, i.size, i.bytes)) = some (some (.int .i64 0), 1, 8) := by kernel_rfl
theorem OwnP.alloc {w : World} {B : Nat} {v : Value} {xs : List Int} (h : OwnP w B v xs) (o : Obj) : OwnP (w.alloc o) B v xs := World.ownsRow.alloc h o
theorem OwnP.drew {w : World} {B : Nat} {v : Value} {xs : List Int} (h : OwnP w B v xs) : OwnP w.drew B v xs := h
theorem OwnP.row {w : World} {B n : Nat} {v : Value} {xs : List Int} (hn : xs.length = n) (h : OwnP w B v xs) : w.ownsRow B 3 1 v n (xs.map (Value.int .i64)) := hn ▸ h
/-- all that was there is as it was, but for the heap's box nb and its row -/
structure HFr (nb : Nat) (v : Value) (w w' : World) : Prop where
  os : w'.os = w.os
  tape : w'.tape = w.tape
  output : w'.output = w.output
  size : w.heap.size ≤ w'.heap.size
  block : ∀ k, k < w.heap.size → k ≠ nb → v.ownBlock ≠ some k → w'.heap[k]? = w.heap[k]?
/-- a heap in memory: its box nb, its row from B on -/
def HpIs (W : World) (nb B : Nat) (v : Value) (xs : List Int) : Prop := OwnP W B v xs ∧ W.heap[nb]? = some (.cells #[v] 61 (0, 0)) ∧ v.ownBlock ≠ some nb
theorem own_set_ne {w : World} {B : Nat} {v : Value} {n : Nat} {xs : List Value} (h : w.ownsRow B 3 1 v n xs) {p : Addr} (hp : v.ownBlock ≠ some p.block) (u : Value) : (w.setCell p u).ownsRow B 3 1 v n xs := by
  refine ⟨h.1, ?_⟩
  rcases h.2 with hn | ⟨g, cap, cur, rfl, hB, hb, rest⟩
  · exact .inl hn
  · refine .inr ⟨g, cap, cur, rfl, hB, ?_, rest⟩
    rw [Below.heap_setCell _ _ _ _ fun e => hp (by rw [← e]; rfl)]
    exact hb
theorem cell_newP (W : World) (x : Value) (t : TypeId) : (W.alloc (.cells #[x] t)).cell? ⟨W.heap.size, 0, none⟩ = some x := (Box.new W [x] t).cell 0 rfl
theorem news_one {W : World} {b : Nat} {x : Value} (h : W.cell? ⟨b, 0, none⟩ = some x) : ∀ j u, [x][j]? = some u → W.cell? ((⟨b, 0, none⟩ : Addr).add j) = some u := by
  intro j u hu
  cases j with
  | zero => simp at hu; subst hu; simpa [Addr.add] using h
  | succ j => simp at hu
theorem ta_int (x : Int) (w : World) : (Instr.typeAssert (.iface 3 (.int .i64 x)) 20 3 false).run Tryd.prog w = .ok (.int .i64 x) w := by kernel_rfl
/-- what Push leaves -/
def PuPost (w : World) (nb B : Nat) (v : Value) (xs : List Int) (x : Int) (e : Ending) (w' : World) : Prop := e = .returned (.tuple #[]) ∧ ∃ a c, HpIs w' nb B (.slice a (xs ++ [x]).length c) (xs ++ [x]) ∧ HFr nb v w w' ∧ (∀ k, (Value.slice a (xs ++ [x]).length c).ownBlock = some k → v.ownBlock = some k ∨ w.heap.size ≤ k)
theorem HFr.trans {nb : Nat} {v v' : Value} {w w' w'' : World} (h : HFr nb v w w') (k : HFr nb v' w' w'') (hv : ∀ k, v'.ownBlock = some k → v.ownBlock = some k ∨ w.heap.size ≤ k) : HFr nb v w w'' :=
  ⟨k.os.trans h.os, k.tape.trans h.tape, k.output.trans h.output, Nat.le_trans h.size k.size, fun b hb hn ho => (k.block b (Nat.lt_of_lt_of_le hb h.size) hn fun e => by
    rcases hv b e with e | e
    · exact ho e
    · omega).trans (h.block b hb hn ho)⟩
section
variable {w W1 w7 : World} {nb B n c g1 c1 : Nat} {v : Value} {xs : List Int} {x : Int}
theorem pu_box (hh : HpIs w nb B v xs) (hb : Below w.heap.size w W1) (hg : W1.grownBy w7 v.ownBlock) : w7.heap[nb]? = some (.cells #[v] 61 (0, 0)) := by
  have hlt := (Array.getElem?_eq_some_iff.1 hh.2.1).1
  have hne : v.ownBlock ≠ some nb := hh.2.2
  exact ((hg.block nb (Nat.lt_of_lt_of_le hlt hb.size) fun hc => hne hc.symm).trans (hb.block nb hlt)).trans hh.2.1
theorem pu_fin (hh : HpIs w nb B v xs) (hn : xs.length = n) (hb : Below w.heap.size w W1) (hown : w7.ownsRow B 3 1 (.slice (some ⟨g1, 0, none⟩) (n + 1) c1) (n + 1) (xs.map (Value.int .i64) ++ [.int .i64 x])) (hg : W1.grownBy w7 v.ownBlock) (hat : v.ownBlock = some g1 ∨ g1 = W1.heap.size) :
    PuPost w nb B v xs x (.returned (.tuple #[])) (w7.setCell ⟨nb, 0, none⟩ (.slice (some ⟨g1, 0, none⟩) (n + 1) c1)) := by
  have hbox := pu_box hh hb hg
  have hlt := (Array.getElem?_eq_some_iff.1 hh.2.1).1
  have hnl : (xs ++ [x]).length = n + 1 := by simp [hn]
  have hB : ∀ k, v.ownBlock = some k → B ≤ k := fun k hk => (World.ownsRow.lt hh.1 k hk).1
  have hne1 : (Value.slice (some ⟨g1, 0, none⟩) (n + 1) c1).ownBlock ≠ some nb := fun e => by
    simp [Value.ownBlock] at e
    subst e
    rcases hat with h | h
    · exact hh.2.2 h
    · have := hb.size; omega
  refine ⟨rfl, some ⟨g1, 0, none⟩, c1, ⟨?_, ?_, by rw [hnl]; exact hne1⟩, ⟨hg.os.trans hb.os, hg.tape.trans hb.tape, hg.output.trans hb.output, by rw [size_set]; exact Nat.le_trans hb.size hg.size, fun k hk hkn hko => ?_⟩, fun k hk => ?_⟩
  · have : OwnP w7 B (.slice (some ⟨g1, 0, none⟩) (n + 1) c1) (xs ++ [x]) := by
      unfold OwnP
      rw [hnl, List.map_append]
      exact hown
    rw [hnl]
    exact own_set_ne this hne1 _
  · rw [hnl]
    have := hbox
    simp [World.setCell, Array.getElem?_modify, this]
  · rw [Below.heap_setCell _ _ _ _ hkn, hg.block k (Nat.lt_of_lt_of_le hk hb.size) (fun hc => hko hc.symm), hb.block k hk]
  · simp [Value.ownBlock] at hk
    subst hk
    rcases hat with h | h
    · exact .inl h
    · exact .inr (by rw [h]; exact hb.size)
end
set_option maxHeartbeats 1600000 in
theorem push_c (nb B n c : Nat) (a : Option Addr) (xs : List Int) (x : Int) (w : World) (hn : xs.length = n) (hm : xs.length ≤ 1000) (hh : HpIs w nb B (.slice a n c) xs) (hB : B ≤ w.heap.size) :
    Calls Tryd.prog 73 #[.pointer (some ⟨nb, 0, none⟩), .iface 3 (.int .i64 x)] w (PuPost w nb B (.slice a n c) xs x) := by
  have bx : Box w nb [.slice a n c] := ⟨_, hh.2.1⟩
  have c0 := bx.cell 0 rfl
  have f0 := bx.frozen 0
  obtain ⟨i3, hi3, hz0, hz1, hz2⟩ := info_parts infoI
  have e0 := fun o => (bx.alloc o).cell 0 rfl
  have ta := ta_int x
  have HH : Hid (HpIs w nb B (.slice a n c) xs ∧ xs.length = n) := ⟨hh, hn⟩
  have HM : Hid (n + 1 ≤ maxLen ∧ (n + 1) * 8 ≤ 140737488355328) := by constructor <;> (try unfold maxLen) <;> omega
  clear bx hh hn hm
  go_enter Tryd.func73, Tryd.ntmps73
  go_wp2_with fail
  go_region_law
    (first
    | (refine step_append_lies _ rfl _ _ 61 rfl B 3 i3 (.int .i64 0) 1 8 Tryd.underlying61 hi3 hz0 hz1 hz2 rfl (by decide) (.slice a n c) n _ rfl (OwnP.row (w := _) (B := B) (v := .slice a n c) (xs := xs) HH.out.2 (by repeat' (first | assumption | exact HH.out.1.1 | (with_reducible refine OwnP.alloc ?_ _) | (with_reducible refine OwnP.drew ?_)))) _ 1 1 [.int .i64 x] rfl rfl (news_one (by first | assumption | (simp; done))) (by simp [Value.oneCell']) (by decide) HM.out.1 HM.out.2 (by first | assumption | omega | (simp; omega)) _ rfl ?_; intro g1 c1 w7 hown7 hgrow7 hat7 hlt7; have hbx := pu_box HH.out.1 ((by repeat' (first | assumption | (with_reducible exact Below.refl _ _) | (with_reducible refine Below.drew ?_) | (with_reducible refine Below.alloc ?_ ?_ _) | (simp; done) | (simp; omega))) : Below w.heap.size w _) hgrow7; have bx7 : Box w7 nb [.slice a n c] := ⟨_, hbx⟩; have q0 := bx7.cell 0 rfl; have q1 := bx7.frozen 0; have HFIN : Hid (PuPost w nb B (.slice a n c) xs x (.returned (.tuple #[])) (w7.setCell ⟨nb, 0, none⟩ (.slice (some ⟨g1, 0, none⟩) (n + 1) c1))) := pu_fin HH.out.1 HH.out.2 ((by repeat' (first | assumption | (with_reducible exact Below.refl _ _) | (with_reducible refine Below.drew ?_) | (with_reducible refine Below.alloc ?_ ?_ _) | (simp; done) | (simp; omega))) : Below w.heap.size w _) hown7 hgrow7 hat7; clear hown7 hgrow7 hat7 hbx bx7))
  all_goals
    go_end0
    exact HFIN.out

theorem OwnP.stored {w : World} {B g cap n : Nat} {gs : List Int} (hn : gs.length = n) (h : OwnP w B (.slice (some ⟨g, 0, none⟩) n cap) gs) (j : Nat) (x : Int) : OwnP (w.setCell ⟨g, j, none⟩ (.int .i64 x)) B (.slice (some ⟨g, 0, none⟩) n cap) (gs.set j x) := by
  subst hn
  have := (World.ownsRow.stored h j (.int .i64 x)).1
  unfold OwnP
  rw [List.length_set, List.map_set]
  exact this
theorem HpIs.sw {W : World} {nb B g c n : Nat} {hs : List Int} (hn : hs.length = n) (h : HpIs W nb B (.slice (some ⟨g, 0, none⟩) n c) hs) (i j : Nat) (k : Nat) :
    HpIs (((W.setCell ⟨g, i, none⟩ (.int .i64 (hs.getD j 0))).setCell ⟨g, j, none⟩ (.int .i64 (hs.getD i 0))).drewN k) nb B (.slice (some ⟨g, 0, none⟩) n c) (Hp.sw hs i j) := by
  have hg := (World.ownsRow.lt h.1 g rfl).1
  have hne : nb ≠ g := fun e => h.2.2 (by rw [e]; rfl)
  refine ⟨(h.1.stored hn i _).stored (by simpa using hn) j _, ?_, h.2.2⟩
  show (World.setCell _ _ _).heap[nb]? = _
  rw [Below.heap_setCell _ _ _ _ hne, Below.heap_setCell _ _ _ _ hne]
  exact h.2.1
theorem HFr.sw {W : World} {nb g c n : Nat} (i j : Nat) (x y : Value) (k : Nat) : HFr nb (.slice (some ⟨g, 0, none⟩) n c) W (((W.setCell ⟨g, i, none⟩ x).setCell ⟨g, j, none⟩ y).drewN k) :=
  ⟨rfl, rfl, rfl, by show _ ≤ (World.setCell _ _ _).heap.size; rw [size_set, size_set]; exact Nat.le_refl _, fun b hb hn ho => by
    have hne : b ≠ g := fun e => ho (by rw [e]; rfl)
    show (World.setCell _ _ _).heap[b]? = _
    rw [Below.heap_setCell _ _ _ _ hne, Below.heap_setCell _ _ _ _ hne]⟩
theorem HFr.below {nb : Nat} {v : Value} {w w' : World} (h : Below w.heap.size w w') : HFr nb v w w' := ⟨h.os, h.tape, h.output, h.size, fun k hk _ _ => h.block k hk⟩
theorem HpIs.below {W W' : World} {nb B : Nat} {v : Value} {hs : List Int} (h : HpIs W nb B v hs) (hb : Below W.heap.size W W') : HpIs W' nb B v hs := ⟨h.1.below hb, (hb.block nb (Array.getElem?_eq_some_iff.1 h.2.1).1).trans h.2.1, h.2.2⟩
end Go.Proofs.YtfjeohnigikmoaaDoor
