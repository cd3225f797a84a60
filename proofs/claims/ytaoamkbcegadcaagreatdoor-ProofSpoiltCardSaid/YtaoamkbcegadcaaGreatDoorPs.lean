/- Texts joined: XShelfLen XPs XYa XYz XYb. -/
import Derived.Shelf.Strconv.Itoa0
import Derived.Test.YtaoamkbcegadcaaGreatDoorProg
import Derived.Test.YtaoamkbcegadcaaGreatDoorAa
import Derived.WalkKit
import Derived.WalkSpells
import Derived.WalkLawsBesides
import Derived.Lib.MinMax
import Derived.Test.YtaoamkbcegadcaaGreatDoorAd
import Derived.Test.YtaoamkbcegadcaaGreatDoorAb
import Derived.Test.YtaoamkbcegadcaaGreatDoorAg
import Derived.Test.YtaoamkbcegadcaaGreatDoorAh
set_option maxRecDepth 4000
/- The library's contract of math/bits.Len64 at this translation (written by the kit's shelf in its plain mode). -/
namespace Go.Proofs
open Go.Shelf
def Tryz.lays129_ren : Go.Shelf.Ren := ⟨fun | 129 => 74 | n => n,fun | 53 => 118 | 3 => 3 | 4 => 4 | 46 => 116 | 5 => 5 | 9 => 9 | n => n,fun | n => n⟩
theorem Tryz.lays129 : Go.Proofs.Lays.n129 Tryz.prog Tryz.lays129_ren := {
  mixed := by kernel_rfl
  f129 := Tryz.func74.trans (congrArg some (by kernel_rfl))
  t3 := Tryz.underlying3
  a3 := Tryz.isAgg3
  z3 := Tryz.sizeOf3
  v3 := Tryz.zeroValue3
  t4 := Tryz.underlying4
  a4 := Tryz.isAgg4
  z4 := Tryz.sizeOf4
  v4 := Tryz.zeroValue4
  t5 := Tryz.underlying5
  a5 := Tryz.isAgg5
  z5 := Tryz.sizeOf5
  v5 := Tryz.zeroValue5
  t9 := Tryz.underlying9
  a9 := Tryz.isAgg9
  z9 := Tryz.sizeOf9
  v9 := Tryz.zeroValue9
  t46 := Tryz.underlying116
  a46 := Tryz.isAgg116
  z46 := Tryz.sizeOf116
  v46 := Tryz.zeroValue116
  t53 := Tryz.underlying118
  a53 := Tryz.isAgg118
  z53 := Tryz.sizeOf118
  v53 := Tryz.zeroValue118 }
theorem Tryz.bits_Len64 (x : Int) (w : World) (h0 : 0 ≤ x) (h1 : x ≤ 18446744073709551615) :
    Calls Tryz.prog 74 #[.int .u64 x] w fun e w' => e = .returned (.int .i64 (Lib.bitLen x.toNat)) ∧ w' = w := Any.bits_Len64 Tryz.lays129 x w h0 h1
end Go.Proofs
/- Layer 18: sizes, and pool.Size. -/
namespace Go.Proofs.YtaoamkbcegadcaaGreatDoor
open Go.RowKit Go.Bx
attribute [local go_sem ↓] Go.wp_at_zero Go.wp_at_succ
set_option linter.unusedVariables false

/-! ### plain: sizes -/
def szk (n : Int) : Nat := max 4 (min (Lib.bitLen (n - 1).toNat) 40)
def sz (n : Int) : Int := if n ≤ 0 then 0 else ((2 ^ szk n : Nat) : Int)

theorem szk_bd (n : Int) : 4 ≤ szk n ∧ szk n ≤ 40 := by unfold szk; omega
theorem sz_bd (n : Int) : 0 ≤ sz n ∧ sz n ≤ 1099511627776 := by
  unfold sz
  split
  · omega
  · have := (szk_bd n).2
    have h : 2 ^ szk n ≤ 2 ^ 40 := Nat.pow_le_pow_right (by decide) this
    generalize 2 ^ szk n = k at *
    omega

theorem sz_pos (n : Int) (h : 0 < n) : sz n = wrap64 (2 ^ (max 4 (min (Lib.bitLen (n - 1).toNat : Int) 40)).toNat) := by
  have hb := sz_bd n
  have e : (max 4 (min (Lib.bitLen (n - 1).toNat : Int) 40)).toNat = szk n := by unfold szk; omega
  rw [e]
  have h2 : sz n = (2 : Int) ^ szk n := by unfold sz; rw [if_neg (by omega)]; exact Int.natCast_pow 2 _
  rw [← h2]
  unfold wrap64
  omega

def P1 (w : World) (a : Int) (e : Ending) (w' : World) : Prop := e = .returned (.int .i64 a) ∧ w = w'

set_option maxHeartbeats 400000 in
theorem psize_c (n : Int) (w : World) (h1 : -9223372036854775808 ≤ n) (h2 : n ≤ 9223372036854775807) :
    Calls Tryz.prog 53 #[.int .i64 n] w (P1 w (sz n)) := by
  by_cases hn : n ≤ 0
  · have e : sz n = 0 := by unfold sz; rw [if_pos hn]
    rw [e]; clear e
    go_enter Tryz.func53,Tryz.ntmps53
    go_wp2
    go_ret
    exact ⟨rfl,rfl⟩
  · have e := sz_pos n (by omega)
    have he : Hid (sz n = wrap64 (2 ^ (max 4 (min (Lib.bitLen (n - 1).toNat : Int) 40)).toNat)) := e
    clear e
    go_enter Tryz.func53,Tryz.ntmps53
    go_wp2_with fail
    refine (Tryz.bits_Len64 _ _ (by omega) (by omega)).mono ?_; rintro e w' ⟨rfl,rfl⟩
    go_wp2_with fail
    go_ret
    have e1 : (n - 1).toNat = n.toNat - 1 := by omega
    have he' := he.out
    rw [e1] at he'
    exact ⟨by rw [he']; rfl,rfl⟩

/-! ### Take, Give, New -/
/-! ### awake -/
end Go.Proofs.YtaoamkbcegadcaaGreatDoor
/- Layer 19: areas, sizes, results. -/
namespace Go.Proofs.YtaoamkbcegadcaaGreatDoor
open Go.RowKit Go.Bx Go.Od Go.Hp
attribute [local go_sem ↓] Go.wp_at_zero Go.wp_at_succ
set_option linter.unusedVariables false

def areaR (r : Rc) : Int := if r.emp then 0 else if (2305843009213693952 : Int) / (r.y1 - r.y0) < r.x1 - r.x0 then 2305843009213693952 else (r.x1 - r.x0) * (r.y1 - r.y0)
theorem emp_ff (r : Rc) : r.emp = false ↔ r.x0 < r.x1 ∧ r.y0 < r.y1 := by simp [Rc.emp]
set_option maxHeartbeats 1600000 in
theorem area_c (r : Rc) (w : World) (hr : RcP r) : Calls Tryz.prog 54 #[rv r] w (PPost w (.int .i64 (areaR r))) := by
  obtain ⟨x0,y0,x1,y1⟩ := r
  have HR : Hid (RcP ⟨x0,y0,x1,y1⟩) := hr
  go_enter Tryz.func54,Tryz.ntmps54
  have X := Box.new w (cl4 ⟨x0,y0,x1,y1⟩) 26
  have hb1 := below_new w (.cells (cs4 x0 y0 x1 y1) 26)
  go_wp2_with fail
  refine (empty_c x0 y0 x1 y1 _).mono ?_; rintro e w2 ⟨rfl,hb2⟩
  have H2 : Hid (Box w2 w.heap.size (cl4 ⟨x0,y0,x1,y1⟩) ∧ Below w.heap.size w w2) := ⟨X.call hb2,hb1.trans (hb2.mono hb1.size)⟩
  clear X hb1 hb2 hr
  obtain ⟨e,he⟩ : ∃ e,e = Rc.emp ⟨x0,y0,x1,y1⟩ := ⟨_,rfl⟩
  have HEM : Hid (e = Rc.emp ⟨x0,y0,x1,y1⟩) := he
  rw [← he]
  clear he
  cases e with
  | true =>
    have HE : Hid (areaR ⟨x0,y0,x1,y1⟩ = 0) := by
      have : areaR ⟨x0,y0,x1,y1⟩ = 0 := by unfold areaR; rw [← HEM.out]; rfl
      exact this
    go_wp2_with fail
    go_ret
    exact ⟨by rw [HE.out]; rfl,H2.out.2⟩
  | false =>
    obtain ⟨c0,c1,c2,c3⟩ := box4 H2.out.1
    have hem : (Rc.emp ⟨x0,y0,x1,y1⟩) = false := HEM.out.symm
    rw [emp_ff] at hem
    obtain ⟨r0,r1,r2,r3⟩ := HR.out
    unfold Pl at r0 r1 r2 r3
    have k0 := fun s : Kept w2.heap.size w2 => s.at c0
    have k1 := fun s : Kept w2.heap.size w2 => s.at c1
    have k2 := fun s : Kept w2.heap.size w2 => s.at c2
    have k3 := fun s : Kept w2.heap.size w2 => s.at c3
    dsimp only at hem r0 r1 r2 r3
    have hw0 : 0 < x1 - x0 := by omega
    have hh0 : 0 < y1 - y0 := by omega
    have HE0 : Hid (areaR ⟨x0,y0,x1,y1⟩ = if (2305843009213693952 : Int) / (y1 - y0) < x1 - x0 then 2305843009213693952 else (x1 - x0) * (y1 - y0)) := by
      have : areaR ⟨x0,y0,x1,y1⟩ = if (2305843009213693952 : Int) / (y1 - y0) < x1 - x0 then 2305843009213693952 else (x1 - x0) * (y1 - y0) := by unfold areaR; rw [← HEM.out]; rfl
      exact this
    clear c0 c1 c2 c3
    go_wp2_with fail
    refine wp_region_kept w2.heap.size (by kernel_rfl) (by kernel_rfl) ?_
    repeat (go_big_quiet_step (fail))
    refine wpQuiet_nil ?_
    rintro _ ⟨s,rfl⟩
    have HB : Hid (Below w.heap.size w s.w) := H2.out.2.trans (s.below.mono H2.out.2.size)
    clear k0 k1 k2 k3
    by_cases hc : (2305843009213693952 : Int) / (y1 - y0) < x1 - x0
    · have HE : Hid (areaR ⟨x0,y0,x1,y1⟩ = 2305843009213693952) := HE0.out.trans (if_pos hc)
      go_wp2_with fail
      go_ret
      exact ⟨by rw [HE.out]; rfl,HB.out⟩
    · have hm : (x1 - x0) * (y1 - y0) ≤ 2305843009213693952 := Int.mul_le_of_le_ediv hh0 (by omega)
      have hp : 0 < (x1 - x0) * (y1 - y0) := Int.mul_pos hw0 hh0
      have HE : Hid (wrap64 ((x1 - x0) * (y1 - y0)) = areaR ⟨x0,y0,x1,y1⟩) := by
        have : wrap64 ((x1 - x0) * (y1 - y0)) = areaR ⟨x0,y0,x1,y1⟩ := by
          rw [HE0.out,if_neg hc]
          generalize (x1 - x0) * (y1 - y0) = q at *
          unfold wrap64
          omega
        exact this
      clear hm hp
      go_wp2_with fail
      go_ret
      exact ⟨by rw [← HE.out]; rfl,HB.out⟩
theorem areaR_bd (r : Rc) (hr : RcP r) : 0 ≤ areaR r ∧ areaR r ≤ 2305843009213693952 := by
  unfold areaR
  split
  · omega
  · rename_i he
    have he' : r.emp = false := by simpa using he
    rw [emp_ff] at he'
    split
    · omega
    · rename_i hc
      have hm : (r.x1 - r.x0) * (r.y1 - r.y0) ≤ 2305843009213693952 := Int.mul_le_of_le_ediv (by omega) (by omega)
      have hp : 0 < (r.x1 - r.x0) * (r.y1 - r.y0) := Int.mul_pos (by omega) (by omega)
      omega
end Go.Proofs.YtaoamkbcegadcaaGreatDoor
/- Layer 19: the plan, plainly. -/
namespace Go.Proofs.YtaoamkbcegadcaaGreatDoor
open Go.RowKit Go.Bx Go.Od Go.Hp
set_option linter.unusedVariables false

structure Cf where
  fuse : Bool
  al : Bool
  roi : Bool
  dam : Bool
  room : Int
structure Ps where
  nodes : List Nat
  reads : List Int
  box : Rc
  slot : Int
  last : Int
def Ps.none : Ps := ⟨[],[],Rc.zero,0,0⟩
def szP (p : Ps) : Int := sz (areaR p.box)
def resP (p : Ps) : Nat := lastN p.nodes
def byP (nds : List Nd) (p : Ps) : Bool := p.nodes.all fun k => byPt (nds.getD k Nd.none).op
def rcEq (a b : Rc) : Bool := decide (a.x0 = b.x0) && (decide (a.y0 = b.y0) && (decide (a.x1 = b.x1) && decide (a.y1 = b.y1)))
def inpl (ps : List Ps) (at_ : Nat) (p : Ps) (s : Int × Int) : Bool :=
  if s.2 < 0 then false else decide ((ps.getD s.2.toNat Ps.none).last = at_) && (rcEq (ps.getD s.2.toNat Ps.none).box p.box && p.reads.contains (resP (ps.getD s.2.toNat Ps.none) : Int))
def free (n : Int) (s : Int × Int) : Bool := decide (s.2 < 0) && decide (s.1 = n)
def fIdx {α : Type} (f : α → Bool) (l : List α) : Int := match l.findIdx? f with | some k => (k : Int) | none => -1
def inPlace (nds : List Nd) (ps : List Ps) (at_ : Nat) (sl : List (Int × Int)) : Int :=
  if byP nds (ps.getD at_ Ps.none) then fIdx (inpl ps at_ (ps.getD at_ Ps.none)) sl else -1
def findS (nds : List Nd) (c : Cf) (ps : List Ps) (at_ : Nat) (sl : List (Int × Int)) : Int × List (Int × Int) :=
  if c.al = true ∧ 0 ≤ inPlace nds ps at_ sl then (inPlace nds ps at_ sl,sl)
  else if c.al = true ∧ 0 ≤ fIdx (free (szP (ps.getD at_ Ps.none))) sl then (fIdx (free (szP (ps.getD at_ Ps.none))) sl,sl)
  else (sl.length,sl ++ [(szP (ps.getD at_ Ps.none),0)])
def usedS : List (Int × Int) → Int
  | [] => 0
  | s :: l => (if 0 ≤ s.2 then s.1 else 0) + usedS l
def dies (ps : List Ps) (at_ : Nat) (s : Int × Int) : Bool := decide (0 ≤ s.2) && decide ((ps.getD s.2.toNat Ps.none).last = at_)
def relS (ps : List Ps) (at_ : Nat) (sl : List (Int × Int)) : List (Int × Int) := sl.map fun s => if dies ps at_ s then (s.1,-1) else s
structure St where
  ps : List Ps
  sl : List (Int × Int)
  pk : Int
def stepA (nds : List Nd) (c : Cf) (s : St) (at_ : Nat) : St :=
  let t : St := if 0 < szP (s.ps.getD at_ Ps.none) then
      let f := findS nds c s.ps at_ s.sl
      ⟨s.ps.set at_ { s.ps.getD at_ Ps.none with slot := f.1 },f.2.set f.1.toNat ((f.2.getD f.1.toNat (0,0)).1,at_),s.pk⟩
    else s
  ⟨t.ps,if c.al = true then relS t.ps at_ t.sl else t.sl,max t.pk (usedS t.sl)⟩
def asg (nds : List Nd) (c : Cf) (ps : List Ps) : St := (List.range ps.length).foldl (stepA nds c) ⟨ps,[],0⟩
theorem usedS_app (a b : List (Int × Int)) : usedS (a ++ b) = usedS a + usedS b := by
  induction a with
  | nil => simp [usedS]
  | cons x a ih => simp [usedS,ih]; omega
/-! ### boxes -/
noncomputable def hullN : List Rc → Rc := fun l => l.foldl joinR Rc.zero
theorem hullN_snoc (l : List Rc) (r : Rc) : hullN (l ++ [r]) = joinR (hullN l) r := by simp [hullN]
end Go.Proofs.YtaoamkbcegadcaaGreatDoor
/- Layer 19: a maker in memory. -/
namespace Go.Proofs.YtaoamkbcegadcaaGreatDoor
open Go.RowKit Go.Bx Go.Od Go.Hp
set_option linter.unusedVariables false

theorem row_put {w : World} {B s g cap n : Nat} {e : TypeId} {xs : List Value} (h : w.ownsRow B e s (.slice (some ⟨g,0,none⟩) n cap) n xs) (j : Nat) (x : Value) (hj : j < n * s) : (w.setCell ⟨g,j,none⟩ x).ownsRow B e s (.slice (some ⟨g,0,none⟩) n cap) n (xs.set j x) := (World.ownsRow.stored h j x).1
def pcl (s t : Value) (p : Ps) : List Value := [s,t,.int .i64 p.box.x0,.int .i64 p.box.y0,.int .i64 p.box.x1,.int .i64 p.box.y1,.int .i64 p.slot,.int .i64 p.last]
def pcs : List (Value × Value × Ps) → List Value
  | [] => []
  | (s,t,p) :: l => pcl s t p ++ pcs l
theorem pcs_len : ∀ l : List (Value × Value × Ps),(pcs l).length = l.length * 8
  | [] => rfl
  | (s,t,p) :: l => by simp [pcs,pcl,pcs_len l]; omega
theorem pcs_app (a b : List (Value × Value × Ps)) : pcs (a ++ b) = pcs a ++ pcs b := by
  induction a with
  | nil => rfl
  | cons x a ih => obtain ⟨s,t,p⟩ := x; simp [pcs,ih]
theorem pcs_get : ∀ (l : List (Value × Value × Ps)) (i : Nat) (x : Value × Value × Ps),l[i]? = some x → ∀ k u,(pcl x.1 x.2.1 x.2.2)[k]? = some u → (pcs l)[i * 8 + k]? = some u
  | [],i,x,h,k,u,hk => by simp at h
  | (s,t,p) :: l,0,x,h,k,u,hk => by
    simp at h
    subst h
    have hk8 : k < (pcl s t p).length := (List.getElem?_eq_some_iff.1 hk).1
    rw [Nat.zero_mul,Nat.zero_add]
    show (pcl s t p ++ pcs l)[k]? = some u
    rw [List.getElem?_append_left hk8]
    exact hk
  | (s,t,p) :: l,i + 1,x,h,k,u,hk => by
    have := pcs_get l i x (by simpa using h) k u hk
    show (pcl s t p ++ pcs l)[(i + 1) * 8 + k]? = some u
    rw [List.getElem?_append_right (by simp [pcl]; omega)]
    have e : (i + 1) * 8 + k - (pcl s t p).length = i * 8 + k := by simp [pcl]; omega
    rw [e]
    exact this
theorem pcs_set : ∀ (l : List (Value × Value × Ps)) (i : Nat) (x : Value × Value × Ps) (k : Nat) (u : Value) (y : Value × Value × Ps),l[i]? = some x → k < 8 → (pcl x.1 x.2.1 x.2.2).set k u = pcl y.1 y.2.1 y.2.2 → (pcs l).set (i * 8 + k) u = pcs (l.set i y)
  | [],i,x,k,u,y,h,_,_ => by simp at h
  | (s,t,p) :: l,0,x,k,u,y,h,hk,he => by
    simp at h
    subst h
    rw [Nat.zero_mul,Nat.zero_add]
    show (pcl s t p ++ pcs l).set k u = pcs (y :: l)
    rw [List.set_append_left _ _ (by simp [pcl]; omega),he]
    rfl
  | (s,t,p) :: l,i + 1,x,k,u,y,h,hk,he => by
    have := pcs_set l i x k u y (by simpa using h) hk he
    show (pcl s t p ++ pcs l).set ((i + 1) * 8 + k) u = pcl s t p ++ pcs (l.set i y)
    rw [List.set_append_right _ _ (by simp [pcl]; omega)]
    have e : (i + 1) * 8 + k - (pcl s t p).length = i * 8 + k := by simp [pcl]; omega
    rw [e,this]
def scs : List (Int × Int) → List Value
  | [] => []
  | s :: l => .int .i64 s.1 :: .int .i64 s.2 :: scs l
theorem scs_len : ∀ l : List (Int × Int),(scs l).length = l.length * 2
  | [] => rfl
  | s :: l => by simp [scs,scs_len l]; omega
theorem scs_app (a b : List (Int × Int)) : scs (a ++ b) = scs a ++ scs b := by
  induction a with
  | nil => rfl
  | cons x a ih => simp [scs,ih]
theorem scs_get : ∀ (l : List (Int × Int)) (i : Nat) (x : Int × Int),l[i]? = some x → (scs l)[i * 2]? = some (.int .i64 x.1) ∧ (scs l)[i * 2 + 1]? = some (.int .i64 x.2)
  | [],i,x,h => by simp at h
  | s :: l,0,x,h => by simp at h; subst h; exact ⟨rfl,rfl⟩
  | s :: l,i + 1,x,h => by
    have := scs_get l i x (by simpa using h)
    rw [show (i + 1) * 2 = i * 2 + 1 + 1 by omega,show i * 2 + 1 + 1 + 1 = i * 2 + 1 + 1 + 1 by rfl]
    simpa [scs] using this
theorem scs_set : ∀ (l : List (Int × Int)) (i : Nat) (x : Int × Int) (v : Int),l[i]? = some x → (scs l).set (i * 2 + 1) (.int .i64 v) = scs (l.set i (x.1,v))
  | [],i,x,v,h => by simp at h
  | s :: l,0,x,v,h => by simp at h; subst h; rfl
  | s :: l,i + 1,x,v,h => by
    have := scs_set l i x v (by simpa using h)
    rw [show (i + 1) * 2 + 1 = i * 2 + 1 + 1 + 1 by omega]
    simp only [scs,List.set_cons_succ]
    rw [this]
def mcl (nv : Value) (out : Int) (c : Cf) (pv : Value) (src : Rc) (sn pk : Int) (sv : Value) : List Value :=
  [nv,.int .i64 out,.bool c.fuse,.bool c.al,.bool c.roi,.bool c.dam,.int .i64 c.room,pv,.int .i64 src.x0,.int .i64 src.y0,.int .i64 src.x1,.int .i64 src.y1,.int .i64 sn,.int .i64 pk,sv]
structure MS (w0 : World) (M : Nat) (nv : Value) (out : Int) (c : Cf) (pl : List (Value × Value × Ps)) (pv : Value) (src : Rc) (sn pk : Int) (sl : List (Int × Int)) (sv : Value) (W : World) : Prop where
  hm : W.heap[M]? = some (.cells (mcl nv out c pv src sn pk sv).toArray 51 (0,0))
  hM : w0.heap.size ≤ M
  pr : W.ownsRow w0.heap.size 37 8 pv pl.length (pcs pl)
  pi : ∀ x ∈ pl,OwnP W w0.heap.size x.1 (ofN x.2.2.nodes) ∧ OwnP W w0.heap.size x.2.1 x.2.2.reads
  sr : W.ownsRow w0.heap.size 73 2 sv sl.length (scs sl)
  below : Below w0.heap.size w0 W
section
variable {w0 W W' : World} {M : Nat} {nv pv sv : Value} {out : Int} {c : Cf} {pl : List (Value × Value × Ps)} {src : Rc} {sn pk : Int} {sl : List (Int × Int)}
theorem MS.box (h : MS w0 M nv out c pl pv src sn pk sl sv W) : Box W M (mcl nv out c pv src sn pk sv) := ⟨_,h.hm⟩
theorem MS.lt (h : MS w0 M nv out c pl pv src sn pk sl sv W) : M < W.heap.size := (Array.getElem?_eq_some_iff.1 h.hm).1
theorem MS.call (h : MS w0 M nv out c pl pv src sn pk sl sv W) (hb : Below W.heap.size W W') : MS w0 M nv out c pl pv src sn pk sl sv W' :=
  ⟨(hb.block M h.lt).trans h.hm,h.hM,owns_below h.pr hb (Nat.le_refl _),fun x hx => ⟨(h.pi x hx).1.below hb,(h.pi x hx).2.below hb⟩,owns_below h.sr hb (Nat.le_refl _),h.below.trans (hb.mono h.below.size)⟩
theorem own_apartM {B s n g : Nat} {e t : TypeId} {v : Value} {xs : List Value} {cs : Array Value} {fz : Nat × Nat} (h : W.ownsRow B e s v n xs) (hg : W.heap[g]? = some (.cells cs t fz)) (ht : t ≠ e) : v.ownBlock ≠ some g := by
  intro hk
  rcases h.2 with ⟨rfl,_⟩ | ⟨g',cap,cur,rfl,_,hb,_⟩
  · cases hk
  · simp [Value.ownBlock] at hk
    subst hk
    rw [hg] at hb
    simp at hb
    exact ht hb.2.1
theorem row_keep {B s n g k : Nat} {e : TypeId} {v : Value} {xs : List Value} (h : W.ownsRow B e s v n xs) (hne : v.ownBlock ≠ some g) (u : Value) : (W.setCell ⟨g,k,none⟩ u).ownsRow B e s v n xs := by
  refine ⟨h.1,?_⟩
  rcases h.2 with hn | ⟨g',cap,cur,rfl,hB,hb,rest⟩
  · exact .inl hn
  · refine .inr ⟨g',cap,cur,rfl,hB,?_,rest⟩
    rw [Below.heap_setCell _ _ _ _ fun e => hne (by have e : g' = g := e; rw [e]; rfl)]
    exact hb
theorem MS.put (h : MS w0 M nv out c pl pv src sn pk sl sv W) (k : Nat) (u : Value) {c' : Cf} {src' : Rc} {sn' pk' : Int} (he : (mcl nv out c pv src sn pk sv).set k u = mcl nv out c' pv src' sn' pk' sv) : MS w0 M nv out c' pl pv src' sn' pk' sl sv (W.setCell ⟨M,k,none⟩ u) := by
  have k1 : ∀ {B s n : Nat} {e : TypeId} {v : Value} {xs : List Value},W.ownsRow B e s v n xs → 51 ≠ e → (W.setCell ⟨M,k,none⟩ u).ownsRow B e s v n xs := fun hr ht => row_keep hr (own_apartM hr h.hm ht) u
  refine ⟨?_,h.hM,k1 h.pr (by decide),fun x hx => ⟨k1 (h.pi x hx).1 (by decide),k1 (h.pi x hx).2 (by decide)⟩,k1 h.sr (by decide),h.below.setCell (by exact h.hM) _⟩
  have h2 : (W.setCell ⟨M,k,none⟩ u).heap[M]? = some (.cells ((mcl nv out c pv src sn pk sv).toArray.setIfInBounds k u) 51 (0,0)) := by
    simp [World.setCell,Array.getElem?_modify,h.hm]
  rw [h2,← he]
  simp
end
end Go.Proofs.YtaoamkbcegadcaaGreatDoor
