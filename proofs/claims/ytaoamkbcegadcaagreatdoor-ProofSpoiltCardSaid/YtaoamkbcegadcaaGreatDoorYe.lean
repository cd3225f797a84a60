/- Texts joined: XYe. -/
import Derived.Test.YtaoamkbcegadcaaGreatDoorYc
import Derived.Laws.StructEq
set_option maxRecDepth 4000
/- Layer 19: what find asks of slots. (Printed by mk_ye.py.) -/
namespace Go.Proofs.YtaoamkbcegadcaaGreatDoor
open Go.RowKit Go.Bx Go.Od Go.Hp
attribute [local go_sem ↓] Go.wp_at_zero Go.wp_at_succ
set_option linter.unusedVariables false

def VT (vals : List Value) (k n : Nat) (zs : List Value) (i : Nat) (v : Value) (W : World) : Prop := (i = k ∧ ∃ q,n ≤ q ∧ v = .pointer (some ⟨q,0,none⟩) ∧ Box W q zs) ∨ (i ≠ k ∧ v = vals.getD i undef)
theorem VT.val {vals : List Value} {k n : Nat} {zs : List Value} {i : Nat} {v : Value} {W : World} (h : VT vals k n zs i v W) (hi : i ≠ k) : v = vals.getD i undef := h.elim (fun h => absurd h.1 hi) fun h => h.2
theorem VT.made {vals : List Value} {k n : Nat} {zs : List Value} {v : Value} {W : World} (h : VT vals k n zs k v W) : ∃ q,n ≤ q ∧ v = .pointer (some ⟨q,0,none⟩) ∧ Box W q zs := h.elim (fun h => h.2) fun h => absurd rfl h.1
theorem VT.stab {vals : List Value} {k n : Nat} {zs : List Value} (i : Nat) (v : Value) (W W' : World) (h : VT vals k n zs i v W) (hb : Below W.heap.size W W') : VT vals k n zs i v W' := h.imp (fun ⟨h1,q,h2,h3,h4⟩ => ⟨h1,q,h2,h3,h4.call hb⟩) id

abbrev slv (s : Int × Int) : Value := .agg #[.int .i64 s.1,.int .i64 s.2]
set_option maxHeartbeats 1600000 in
theorem free_c (n : Int) (nb : Nat) (s : Int × Int) (w : World) (h : w.cell? ⟨nb,0,none⟩ = some (.int .i64 n)) :
    Calls Tryz.prog 57 #[slv s,.pointer (some ⟨nb,0,none⟩)] w (PPost w (.bool (free n s))) := by
  obtain ⟨a,b⟩ := s
  have c := cell_alloc_lt h (.cells #[.int .i64 a,.int .i64 b] 73)
  have HB : Hid (Below w.heap.size w (w.alloc (.cells #[.int .i64 a,.int .i64 b] 73))) := below_new w _
  by_cases hb : b < 0
  · obtain ⟨q,hq⟩ : ∃ q,(a == n) = q := ⟨_,rfl⟩
    have HE : Hid (free n (a,b) = q) := by
      have : free n (a,b) = q := by
        unfold free
        dsimp only
        rw [decide_eq_true hb,Bool.true_and,← hq]
        exact Bool.eq_iff_iff.2 (by simp)
      exact this
    have hd : decide (b < 0) = true := decide_eq_true hb
    go_enter Tryz.func57,Tryz.ntmps57
    go_wp2_with fail
    go_ret
    exact ⟨ret_b HE.out.symm,HB.out⟩
  · have HE : Hid (free n (a,b) = false) := by
      have : free n (a,b) = false := by
        unfold free
        dsimp only
        rw [decide_eq_false hb,Bool.false_and]
      exact this
    have hd : decide (b < 0) = false := decide_eq_false hb
    go_enter Tryz.func57,Tryz.ntmps57
    go_wp2_with fail
    go_ret
    exact ⟨ret_b HE.out.symm,HB.out⟩
theorem scs_cell {w : World} {B : Nat} {v : Value} {sl : List (Int × Int)} (h : w.ownsRow B 73 2 v sl.length (scs sl)) : ∃ a c,v = .slice a sl.length c ∧ ∀ j,j < sl.length → ∃ g,a = some ⟨g,0,none⟩ ∧ B ≤ g ∧ g < w.heap.size ∧ w.cell? ⟨g,j * 2,none⟩ = some (.int .i64 (sl.getD j (0,0)).1) ∧ w.cell? ⟨g,j * 2 + 1,none⟩ = some (.int .i64 (sl.getD j (0,0)).2) ∧ ∀ k,w.frozen? ⟨g,k,none⟩ = false := by
  rcases h.2 with ⟨rfl,h0⟩ | ⟨g,c,cur,rfl,hB,hb,hle,hcm,hsz,htk⟩
  · exact ⟨none,0,by rw [h0],fun j hj => by omega⟩
  · refine ⟨_,c,rfl,fun j hj => ?_⟩
    have hg : sl[j]? = some (sl.getD j (0,0)) := by simp [hj]
    obtain ⟨g0,g1⟩ := scs_get sl j _ hg
    have hl := scs_len sl
    refine ⟨g,rfl,hB,(Array.getElem?_eq_some_iff.1 hb).1,?_,?_,fun k => World.ownsRow.frozenAt h k⟩
    · rw [World.ownsRow.cellAt h (j * 2) (by omega),g0]
    · rw [World.ownsRow.cellAt h (j * 2 + 1) (by omega),g1]
set_option maxHeartbeats 1600000 in
theorem idxS_c (B : Nat) (g : Nat) (lb : Array Value) (p : Int × Int → Bool) (v : Value) (xs : List (Int × Int)) (w : World) (eg : ∀ args w,(callFunc g args).run Tryz.prog w = .ok (.enter g args) w) (hl : xs.length ≤ 1000) (hs : w.ownsRow B 73 2 v xs.length (scs xs))
    (hp : ∀ W x,Below w.heap.size w W → x ∈ xs → Calls Tryz.prog g (#[slv x] ++ lb) W (PPost W (.bool (p x)))) :
    Calls Tryz.prog 78 #[v,.func (.func g) #[] lb] w (PPost w (.int .i64 (fIdx p xs))) := by
  obtain ⟨a,cap,rfl,hcell⟩ := scs_cell hs
  have HC : Hid (∀ j,j < xs.length → ∃ g,a = some ⟨g,0,none⟩ ∧ w.cell? ⟨g,j * 2,none⟩ = some (.int .i64 (xs.getD j (0,0)).1) ∧ w.cell? ⟨g,j * 2 + 1,none⟩ = some (.int .i64 (xs.getD j (0,0)).2)) := fun j hj => by
    obtain ⟨g,h1,h2,h3,h4,h5,_⟩ := hcell j hj
    exact ⟨g,h1,h4,h5⟩
  have HP : Hid (∀ W x,Below w.heap.size w W → x ∈ xs → Calls Tryz.prog g (#[slv x] ++ lb) W (PPost W (.bool (p x)))) := hp
  clear hs hcell hp
  go_enter Tryz.func78,Tryz.ntmps78
  go_wp2_with fail
  go_loopw [8] (fun jv wr => ∃ j : Nat,j ≤ xs.length ∧ jv = .int .i64 j ∧ Hid (∀ q,q < j → p (xs.getD q (0,0)) = false) ∧ Below w.heap.size w wr) (fun jv _ => xs.length - (intOf jv).toNat)
  case atStart => exact ⟨0,by omega,rfl,(fun j hj => by omega),Below.refl _ _⟩
  case round =>
    obtain ⟨j,hj,rfl,hall,hb⟩ := hrel
    have HB : Hid (Below w.heap.size w wr) := hb
    by_cases h1 : j < xs.length
    · obtain ⟨o',rfl,hc0,hc1⟩ := HC.out j h1
      have hc := (hb.cell (lt_of_cell hc0)).trans hc0
      have hc2 := (hb.cell (lt_of_cell hc1)).trans hc1
      obtain ⟨z,hz⟩ : ∃ z,z = xs.getD j (0,0) := ⟨_,rfl⟩
      rw [← hz] at hc hc2
      have HZ : Hid (z = xs.getD j (0,0)) := hz
      have hm : z ∈ xs := by rw [hz]; simp [h1]
      have hcall := HP.out wr z hb hm
      obtain ⟨q,hq⟩ : ∃ q,q = p z := ⟨_,rfl⟩
      rw [← hq] at hcall
      have HQ : Hid (q = p z) := hq
      obtain ⟨z1,z2⟩ := z
      have hj0 : (0 : Int) ≤ (j : Int) := by omega
      have hj1 : (j : Int) < (xs.length : Int) := by omega
      clear hz hc0 hc1 hq hb hm
      cases q with
      | true =>
        have HE : Hid (fIdx p xs = j) := by
          have : fIdx p xs = j := fIdx_some h1 (by rw [← show (z1,z2) = xs[j] by rw [HZ.out]; simp [h1]]; exact HQ.out.symm) fun i hi => by
            have := hall.out i hi
            simpa [show i < xs.length by omega] using this
          exact this
        go_wp2_with (go_at_fn g; refine hcall.mono ?_; rintro e w5 ⟨rfl,hb5⟩)
        go_ret
        exact ⟨by rw [HE.out]; rfl,HB.out.trans (hb5.mono HB.out.size)⟩
      | false =>
        have HA : Hid (∀ q,q < j + 1 → p (xs.getD q (0,0)) = false) := fun q hq => by
          by_cases e : q = j
          · subst e; rw [← HZ.out]; exact HQ.out.symm
          · exact hall.out q (by omega)
        go_wp2_with (go_at_fn g; refine hcall.mono ?_; rintro e w5 ⟨rfl,hb5⟩)
        go_roundw
        case rel => exact ⟨j + 1,by omega,by go_num,HA,HB.out.trans (hb5.mono HB.out.size)⟩
        case measure => simp [intOf]; omega
    · have ej : j = xs.length := by omega
      subst ej
      have HE : Hid (fIdx p xs = -1) := by
        have : fIdx p xs = -1 := fIdx_none fun x hx => by
          obtain ⟨i,hi,rfl⟩ := List.mem_iff_getElem.1 hx
          have := hall.out i hi
          simpa [hi] using this
        exact this
      clear hb
      go_wp2_with fail
      go_ret
      exact ⟨by rw [HE.out]; rfl,HB.out⟩
end Go.Proofs.YtaoamkbcegadcaaGreatDoor
