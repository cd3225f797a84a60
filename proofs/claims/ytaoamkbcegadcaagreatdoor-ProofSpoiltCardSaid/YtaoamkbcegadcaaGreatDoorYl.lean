/- Texts joined: XYl. -/
import Derived.Test.YtaoamkbcegadcaaGreatDoorYk
import Derived.Test.YtaoamkbcegadcaaGreatDoorYp
set_option maxRecDepth 4000
/- Layer 19: what lies in memory while boxes are laid. -/
namespace Go.Proofs.YtaoamkbcegadcaaGreatDoor
open Go.RowKit Go.Bx Go.Od Go.Hp
set_option linter.unusedVariables false

def Mid (n : Nat) (w W : World) : Prop := ∀ b,n ≤ b → b < w.heap.size → W.heap[b]? = w.heap[b]?
theorem Mid.refl (n : Nat) (w : World) : Mid n w w := fun _ _ _ => rfl
theorem Mid.call {n : Nat} {w W W' : World} (h : Mid n w W) (hs : w.heap.size ≤ W.heap.size) (hb : Below W.heap.size W W') : Mid n w W' := fun b h1 h2 => (hb.block b (by omega)).trans (h b h1 h2)
theorem Mid.set {n : Nat} {w W : World} (h : Mid n w W) {p : Addr} (hp : p.block < n ∨ w.heap.size ≤ p.block) (v : Value) : Mid n w (W.setCell p v) := fun b h1 h2 => by
  rw [Below.heap_setCell _ _ _ _ (by omega)]
  exact h b h1 h2
theorem Mid.grown {n : Nat} {w W W' : World} {r : Option Nat} (h : Mid n w W) (hs : w.heap.size ≤ W.heap.size) (hg : W.grownBy W' r) (hr : ∀ k,r = some k → k < n ∨ w.heap.size ≤ k) : Mid n w W' := fun b h1 h2 => (hg.block b (by omega) fun e => by have := hr b e.symm; omega).trans (h b h1 h2)
theorem Mid.cell {n : Nat} {w W : World} (h : Mid n w W) {a : Addr} {v : Value} (hb : n ≤ a.block) (hc : w.cell? a = some v) : W.cell? a = some v := by
  have := h a.block hb (lt_of_cell hc)
  unfold World.cell? at hc ⊢
  rw [this]
  exact hc
theorem owns_mid {n B s m : Nat} {w W : World} {e : TypeId} {v : Value} {xs : List Value} (h : w.ownsRow B e s v m xs) (hm : Mid n w W) (hB : n ≤ B) : W.ownsRow B e s v m xs := by
  refine ⟨h.1,?_⟩
  rcases h.2 with hn | ⟨g,cap,cur,rfl,hbg,hgg,rest⟩
  · exact .inl hn
  · refine .inr ⟨g,cap,cur,rfl,hbg,?_,rest⟩
    rw [hm g (by omega) (Array.getElem?_eq_some_iff.1 hgg).1]
    exact hgg
theorem Box.mid {n b : Nat} {w W : World} {cs : List Value} (h : Box w b cs) (hm : Mid n w W) (hb : n ≤ b) : Box W b cs := h.of_block (hm b hb h.lt)
theorem GI.row {B i n c : Nat} {G : List (List Int)} {a : Option Addr} {vs : List Value} {W : World} (h : GI B G (.slice a n c) vs W) (hn : n = G.length) (hi : i < n) : ∃ g x y,a = some ⟨g,0,none⟩ ∧ B ≤ g ∧ W.cell? ⟨g,i,none⟩ = some (.slice x (G.getD i []).length y) ∧ OwnP W B (.slice x (G.getD i []).length y) (G.getD i []) := by
  subst hn
  have ho := h.inner i hi
  obtain ⟨x,y,hv⟩ := own_slv ho
  rcases h.own.2 with ⟨_,h0⟩ | ⟨g,cap,cur,he,_⟩
  · omega
  · cases he
    refine ⟨g,x,y,rfl,(World.ownsRow.lt h.own g rfl).1,?_,hv ▸ ho⟩
    have h2 := World.ownsRow.cellAt h.own i (by omega)
    rw [h2,← hv]
    have := h.own.1
    have hlr : i < vs.length := by omega
    simp [hlr]
theorem row_base {w : World} {B C n s : Nat} {e : TypeId} {v : Value} {xs : List Value} (h : w.ownsRow B e s v n xs) (hC : C ≤ B) : w.ownsRow C e s v n xs := by
  refine ⟨h.1,?_⟩
  rcases h.2 with hn | ⟨g,cap,cur,rfl,hbg,rest⟩
  · exact .inl hn
  · exact .inr ⟨g,cap,cur,rfl,Nat.le_trans hC hbg,rest⟩
theorem own_last {W : World} {B m : Nat} {x : Option Addr} {y : Nat} {l : List Nat} (h : OwnP W B (.slice x (m + 1) y) (ofN l)) (hm : l.length = m + 1) : ∃ g,x = some ⟨g,0,none⟩ ∧ B ≤ g ∧ W.cell? ⟨g,m,none⟩ = some (.int .i64 (lastN l : Nat)) := by
  rcases h.form with ⟨_,h'⟩ | ⟨g,cap,h1,_,_,_,_,_,_,hc⟩
  · have := ofN_len l
    rw [h'] at this
    simp at this
    omega
  · simp only [Value.slice.injEq] at h1
    obtain ⟨rfl,_,_⟩ := h1
    refine ⟨g,rfl,(World.ownsRow.lt h g rfl).1,?_⟩
    have h2 := hc m (by rw [ofN_len]; omega)
    rw [h2]
    have : (ofN l).getD m 0 = (lastN l : Nat) := by
      rw [← lstI_ofN]
      unfold lstI
      have hl : (ofN l).length = m + 1 := by rw [ofN_len,hm]
      rw [hl]
      rfl
    rw [this]
section
variable {w0 : World} {M : Nat} {nv pv sv : Value} {out : Int} {c : Cf} {pl : List (Value × Value × Ps)} {src : Rc} {sn pk : Int} {sl : List (Int × Int)} {W W' : World}
theorem MS.setPk {g n cp : Nat} (h : MS w0 M nv out c pl (.slice (some ⟨g,0,none⟩) n cp) src sn pk sl sv W) {i : Nat} {x : Value × Value × Ps} (hi : pl[i]? = some x) (k : Nat) (hk : k < 8) (u : Value) (y : Ps) (he : (pcl x.1 x.2.1 x.2.2).set k u = pcl x.1 x.2.1 y) (hy : y.nodes = x.2.2.nodes ∧ y.reads = x.2.2.reads) : MS w0 M nv out c (pl.set i (x.1,x.2.1,y)) (.slice (some ⟨g,0,none⟩) n cp) src sn pk sl sv (W.setCell ⟨g,i * 8 + k,none⟩ u) := by
  have hil : i < pl.length := (List.getElem?_eq_some_iff.1 hi).1
  have hn : n = pl.length := by
    rcases h.pr.2 with ⟨h1,_⟩ | ⟨g',cap,cur,h1,_⟩
    · cases h1
    · cases h1; rfl
  subst hn
  have hM : M ≠ g := fun e => own_apartM h.pr h.hm (by decide) (by rw [e]; rfl)
  have k1 : ∀ {B s n : Nat} {e : TypeId} {v' : Value} {xs : List Value},W.ownsRow B e s v' n xs → e ≠ 37 → (W.setCell ⟨g,i * 8 + k,none⟩ u).ownsRow B e s v' n xs := fun hr ht => row_keep2 ⟨g,i * 8 + k,none⟩ hr (fun e => rows_apart hr h.pr ht e rfl) _
  refine ⟨?_,h.hM,?_,fun z hz => ?_,k1 h.sr (by decide),h.below.setCell (World.ownsRow.lt h.pr g rfl).1 _⟩
  · rw [Below.heap_setCell _ _ _ _ hM]
    exact h.hm
  · rw [List.length_set,← pcs_set pl i x k u (x.1,x.2.1,y) hi hk he]
    exact row_put h.pr _ _ (by omega)
  · have : OwnP W w0.heap.size z.1 (ofN z.2.2.nodes) ∧ OwnP W w0.heap.size z.2.1 z.2.2.reads := by
      rcases List.mem_or_eq_of_mem_set hz with h2 | rfl
      · exact h.pi z h2
      · have := h.pi x (List.mem_of_getElem? hi)
        dsimp only
        rw [hy.1,hy.2]
        exact this
    exact ⟨k1 this.1 (by decide),k1 this.2 (by decide)⟩
theorem set_set {α : Type} (l : List α) (i : Nat) (a b : α) : (l.set i a).set i b = l.set i b := by simp
theorem MS.setBox {g n cp : Nat} (h : MS w0 M nv out c pl (.slice (some ⟨g,0,none⟩) n cp) src sn pk sl sv W) {i : Nat} {s t : Value} {y : Ps} (hi : pl[i]? = some (s,t,y)) (r : Rc) : MS w0 M nv out c (pl.set i (s,t,{ y with box := r })) (.slice (some ⟨g,0,none⟩) n cp) src sn pk sl sv ((((W.setCell ⟨g,i * 8 + 2,none⟩ (.int .i64 r.x0)).setCell ⟨g,i * 8 + 3,none⟩ (.int .i64 r.y0)).setCell ⟨g,i * 8 + 4,none⟩ (.int .i64 r.x1)).setCell ⟨g,i * 8 + 5,none⟩ (.int .i64 r.y1)) := by
  have hil : i < pl.length := (List.getElem?_eq_some_iff.1 hi).1
  have h1 := h.setPk hi 2 (by omega) (.int .i64 r.x0) { y with box := { y.box with x0 := r.x0 } } rfl ⟨rfl,rfl⟩
  have h2 := h1.setPk (i := i) (x := (s,t,{ y with box := { y.box with x0 := r.x0 } })) (by simp [hil]) 3 (by omega) (.int .i64 r.y0) { y with box := { y.box with x0 := r.x0,y0 := r.y0 } } rfl ⟨rfl,rfl⟩
  rw [set_set] at h2
  have h3 := h2.setPk (i := i) (x := (s,t,{ y with box := { y.box with x0 := r.x0,y0 := r.y0 } })) (by simp [hil]) 4 (by omega) (.int .i64 r.x1) { y with box := { y.box with x0 := r.x0,y0 := r.y0,x1 := r.x1 } } rfl ⟨rfl,rfl⟩
  rw [set_set] at h3
  have h4 := h3.setPk (i := i) (x := (s,t,{ y with box := { y.box with x0 := r.x0,y0 := r.y0,x1 := r.x1 } })) (by simp [hil]) 5 (by omega) (.int .i64 r.y1) { y with box := r } rfl ⟨rfl,rfl⟩
  rw [set_set] at h4
  exact h4
end
def TB (W : World) (b : Nat) (cs : List Value) (t : TypeId) : Prop := W.heap[b]? = some (.cells cs.toArray t (0,0))
theorem TB.box {W : World} {b : Nat} {cs : List Value} {t : TypeId} (h : TB W b cs t) : Box W b cs := ⟨t,h⟩
theorem TB.lt {W : World} {b : Nat} {cs : List Value} {t : TypeId} (h : TB W b cs t) : b < W.heap.size := (Array.getElem?_eq_some_iff.1 h).1
theorem TB.call {W W' : World} {b : Nat} {cs : List Value} {t : TypeId} (h : TB W b cs t) (hb : Below W.heap.size W W') : TB W' b cs t := (hb.block b h.lt).trans h
theorem TB.set {W : World} {b : Nat} {cs : List Value} {t : TypeId} (h : TB W b cs t) {p : Addr} (hp : b ≠ p.block) (v : Value) : TB (W.setCell p v) b cs t := by
  unfold TB
  rw [Below.heap_setCell _ _ _ _ hp]
  exact h
theorem TB.put {W : World} {b : Nat} {cs : List Value} {t : TypeId} (h : TB W b cs t) (k : Nat) (v : Value) : TB (W.setCell ⟨b,k,none⟩ v) b (cs.set k v) t := by
  unfold TB at h ⊢
  have : (W.setCell ⟨b,k,none⟩ v).heap[b]? = some (.cells (cs.toArray.setIfInBounds k v) t (0,0)) := by
    simp [World.setCell,Array.getElem?_modify,h]
  rw [this]
  simp
theorem TB.grown {W W' : World} {b : Nat} {cs : List Value} {t : TypeId} {r : Option Nat} (h : TB W b cs t) (hg : W.grownBy W' r) (hr : r ≠ some b) : TB W' b cs t := (hg.block b h.lt fun e => hr e.symm).trans h
theorem TB.new (W : World) (cs : List Value) (t : TypeId) : TB (W.alloc (.cells cs.toArray t)) W.heap.size cs t := alloc_at W _
theorem MS.away {w0 : World} {M : Nat} {nv pv sv : Value} {out : Int} {c : Cf} {pl : List (Value × Value × Ps)} {src : Rc} {sn pk : Int} {sl : List (Int × Int)} {W : World} (h : MS w0 M nv out c pl pv src sn pk sl sv W) {b : Nat} {cs : List Value} (hb : TB W b cs 26) (hw : w0.heap.size ≤ b) (k : Nat) (v : Value) : MS w0 M nv out c pl pv src sn pk sl sv (W.setCell ⟨b,k,none⟩ v) := by
  have hM : M ≠ b := fun e => by
    have h1 := h.hm
    rw [e,hb] at h1
    simp only [Option.some.injEq,Obj.cells.injEq] at h1
    exact absurd h1.2.1 (by decide)
  have k1 : ∀ {B s n : Nat} {e : TypeId} {v' : Value} {xs : List Value},W.ownsRow B e s v' n xs → 26 ≠ e → (W.setCell ⟨b,k,none⟩ v).ownsRow B e s v' n xs := fun hr ht => row_keep hr (own_apartM hr hb ht) v
  refine ⟨?_,h.hM,k1 h.pr (by decide),fun x hx => ⟨k1 (h.pi x hx).1 (by decide),k1 (h.pi x hx).2 (by decide)⟩,k1 h.sr (by decide),h.below.setCell hw _⟩
  rw [Below.heap_setCell _ _ _ _ hM]
  exact h.hm
theorem MS.putSrc {w0 : World} {M : Nat} {nv pv sv : Value} {out : Int} {c : Cf} {pl : List (Value × Value × Ps)} {src : Rc} {sn pk : Int} {sl : List (Int × Int)} {W : World} (h : MS w0 M nv out c pl pv src sn pk sl sv W) (r : Rc) : MS w0 M nv out c pl pv r sn pk sl sv ((((W.setCell ⟨M,8,none⟩ (.int .i64 r.x0)).setCell ⟨M,9,none⟩ (.int .i64 r.y0)).setCell ⟨M,10,none⟩ (.int .i64 r.x1)).setCell ⟨M,11,none⟩ (.int .i64 r.y1)) := by
  have h1 := h.put 8 (.int .i64 r.x0) (c' := c) (src' := { src with x0 := r.x0 }) (sn' := sn) (pk' := pk) rfl
  have h2 := h1.put 9 (.int .i64 r.y0) (c' := c) (src' := { src with x0 := r.x0,y0 := r.y0 }) (sn' := sn) (pk' := pk) rfl
  have h3 := h2.put 10 (.int .i64 r.x1) (c' := c) (src' := { src with x0 := r.x0,y0 := r.y0,x1 := r.x1 }) (sn' := sn) (pk' := pk) rfl
  exact h3.put 11 (.int .i64 r.y1) (c' := c) (src' := r) (sn' := sn) (pk' := pk) rfl
def BI (w0 : World) (M : Nat) (nv : Value) (out : Int) (c : Cf) (W5 : World) (n1 : Nat) (raw : List Ps) (i : Nat) (W : World) : Prop :=
  ∃ pl pv,psl pl = raw.take i ∧ MS w0 M nv out c pl pv Rc.zero 0 0 [] (.slice none 0 0) W ∧ W.ownsRow (W5.heap.size + 1) 37 8 pv pl.length (pcs pl) ∧ TB W W5.heap.size (cl4 (hullN ((raw.take i).map (·.box)))) 26 ∧ Mid n1 W5 W ∧ W5.heap.size + 1 ≤ W.heap.size
def widJ (h : Rc) (l : List Ps) (i : Nat) : List Ps := (l.take i).map (wide h) ++ l.drop i
theorem widJ_len (h : Rc) (l : List Ps) (i : Nat) : (widJ h l i).length = l.length := by
  unfold widJ
  rw [List.length_append,List.length_map,List.length_take,List.length_drop]
  omega
theorem widJ_get (h : Rc) (l : List Ps) {i : Nat} (hi : i < l.length) : (widJ h l i).getD i Ps.none = l.getD i Ps.none := by
  unfold widJ
  have h1 : ((l.take i).map (wide h)).length = i := by rw [List.length_map,List.length_take]; omega
  rw [List.getD_eq_getElem?_getD,List.getElem?_append_right (by omega),h1,Nat.sub_self]
  simp [hi]
theorem widJ_next (h : Rc) (l : List Ps) {i : Nat} (hi : i < l.length) : widJ h l (i + 1) = (widJ h l i).set i (wide h (l.getD i Ps.none)) := by
  unfold widJ
  have h1 : ((l.take i).map (wide h)).length = i := by rw [List.length_map,List.length_take]; omega
  have e : l.take (i + 1) = l.take i ++ [l.getD i Ps.none] := by
    rw [List.take_add_one]
    simp [hi]
  have e2 : l.drop i = l.getD i Ps.none :: l.drop (i + 1) := by
    rw [List.drop_eq_getElem_cons hi]
    simp [hi]
  rw [e,e2,List.map_append]
  generalize (l.take i).map (wide h) = R at *
  subst h1
  simp
theorem widJ_zero (h : Rc) (l : List Ps) : widJ h l 0 = l := by simp [widJ]
theorem widJ_all (h : Rc) (l : List Ps) : widJ h l l.length = l.map (wide h) := by simp [widJ]
theorem wide_same (h : Rc) (l : List Ps) {i : Nat} (hi : i < l.length) (he : (l.getD i Ps.none).box.emp = true) : widJ h l (i + 1) = widJ h l i := by
  rw [widJ_next h l hi]
  have e : wide h (l.getD i Ps.none) = (widJ h l i).getD i Ps.none := by
    rw [widJ_get h l hi]
    unfold wide
    rw [if_pos he]
  rw [e]
  have hl : i < (widJ h l i).length := by rw [widJ_len]; exact hi
  refine List.ext_getElem (by simp) fun j h1 h2 => ?_
  by_cases ej : i = j
  · subst ej; simp [hl]
  · simp [ej]
theorem wide_set (h : Rc) (l : List Ps) {i : Nat} (hi : i < l.length) (he : (l.getD i Ps.none).box.emp = false) : widJ h l (i + 1) = (widJ h l i).set i { l.getD i Ps.none with box := h } := by
  rw [widJ_next h l hi]
  unfold wide
  rw [he,if_neg (by simp)]
def BJ (w0 : World) (M : Nat) (nv : Value) (out : Int) (c : Cf) (W5 : World) (n1 : Nat) (pv : Value) (t hu : Rc) (raw : List Ps) (i : Nat) (W : World) : Prop :=
  ∃ pl,psl pl = widJ hu raw i ∧ MS w0 M nv out c pl pv t 0 0 [] (.slice none 0 0) W ∧ TB W W5.heap.size (cl4 hu) 26 ∧ Mid n1 W5 W ∧ W5.heap.size + 1 ≤ W.heap.size
def BxPost (w0 : World) (M : Nat) (nv : Value) (out : Int) (c : Cf) (ps : List Ps) (src : Rc) (e : Ending) (w' : World) : Prop := e = .returned undef ∧ ∃ pl pv,psl pl = ps ∧ MS w0 M nv out c pl pv src 0 0 [] (.slice none 0 0) w'
end Go.Proofs.YtaoamkbcegadcaaGreatDoor
