/- Texts joined: XFu XFm XFl XGm XGr XRg XJn XLd XRp XPl XPm XPw. -/
import Derived.Test.YtaoamkbcegadcaaGreatDoorAb
import Derived.RangeFuncBox
import Derived.RangeFuncWrites
import Derived.RangeFuncNested
import Derived.RangeFuncBound
import Derived.RangeFuncCalls
import Derived.RangeFuncLeaves
import Derived.Shelf.Abstract
import Derived.OwnWalkIn
import Derived.TacticsInMore
import Derived.LoopNIn
import Derived.LoopIn
import Derived.Maps.OwnSet
import Derived.Test.YtaoamkbcegadcaaGreatDoorAe
import Derived.Maps.OwnRows
import Derived.Maps.GroupsBeside
import Derived.Test.YtaoamkbcegadcaaGreatDoorAc
set_option maxRecDepth 4000
/- Layer 16: which kinds go point by point; a node's only user. -/
namespace Go.Proofs.YtaoamkbcegadcaaGreatDoor
open Go.RowKit Go.Bx Go.Od Go.Hp
attribute [local go_sem ↓] Go.wp_at_zero Go.wp_at_succ
set_option linter.unusedVariables false

def byPt (op : Int) : Bool := decide ((5 ≤ op ∧ op ≤ 9) ∨ op = 12)
set_option maxHeartbeats 1600000 in
theorem bypoint_c (op : Int) (w : World) : Calls Tryz.prog 61 #[.int .i64 op] w fun e w' => e = .returned (.bool (byPt op)) ∧ w' = w := by
  by_cases h : op = 5 ∨ op = 6 ∨ op = 7 ∨ op = 8 ∨ op = 9 ∨ op = 12
  · rcases h with rfl | rfl | rfl | rfl | rfl | rfl
    all_goals
      go_enter Tryz.func61,Tryz.ntmps61
      go_wp2_with fail
      go_ret
      exact ⟨rfl,rfl⟩
  · have e1 : (op == 5) = false := beq_eq_false_iff_ne.2 (by omega)
    have e2 : (op == 6) = false := beq_eq_false_iff_ne.2 (by omega)
    have e3 : (op == 7) = false := beq_eq_false_iff_ne.2 (by omega)
    have e4 : (op == 8) = false := beq_eq_false_iff_ne.2 (by omega)
    have e5 : (op == 9) = false := beq_eq_false_iff_ne.2 (by omega)
    have e6 : (op == 12) = false := beq_eq_false_iff_ne.2 (by omega)
    have HE : Hid (byPt op = false) := decide_eq_false (by omega)
    clear h
    go_enter Tryz.func61,Tryz.ntmps61
    go_wp2_with fail
    go_ret
    exact ⟨ret_b HE.out.symm,rfl⟩
def lastN (l : List Nat) : Nat := l.getLastD 0
theorem lastN_snoc (l : List Nat) (x : Nat) : lastN (l ++ [x]) = x := by simp [lastN]
theorem take_filter {l : List Nat} {j x : Nat} (S : Nat → Bool) (h : l[j]? = some x) : (l.take (j + 1)).filter S = if S x then (l.take j).filter S ++ [x] else (l.take j).filter S := by
  rw [take_more h,List.filter_append]
  cases e : S x <;> simp [e]
set_option maxHeartbeats 1600000 in
theorem user_c (B U O k n : Nat) (vs : List Value) (l : List Nat) (S : Nat → Bool) (w : World) (hn : n ≤ 1000) (hk : k < n) (hvs : vs.length = n) (hU : Box w U vs) (ho : OwnP w B (vs.getD k undef) (ofN l)) (hO : Box w O (bc n S)) (hl : ∀ u ∈ l,u < n) (hll : l.length ≤ 1000) :
    Calls Tryz.prog 69 #[.slice (some ⟨U,0,none⟩) n n,.slice (some ⟨O,0,none⟩) n n,.int .i64 k] w fun e w' => e = .returned (.tuple #[.int .i64 (lastN (l.filter S)),.bool (((l.filter S).length : Int) == 1)]) ∧ w' = w := by
  obtain ⟨a,c,hv⟩ := own_sl ho
  have u0 := hU.cell k (show vs[k]? = some (.slice a l.length c) by rw [← hv]; simp [hvs,hk])
  have HO : Hid (Box w O (bc n S)) := hO
  have HF : Hid (∀ j,j < l.length → ∃ g,a = some ⟨g,0,none⟩ ∧ w.cell? ⟨g,j,none⟩ = some (.int .i64 (l.getD j 0)) ∧ l.getD j 0 < n ∧ l[j]? = some (l.getD j 0)) := fun j hj => by
    rw [hv] at ho
    have hg : l[j]? = some (l.getD j 0) := by simp [hj]
    rcases ho.form with ⟨h1,h2⟩ | ⟨g,cap,h1,_,_,_,_,_,_,h3⟩
    · have : l.length = 0 := by rw [← ofN_len,h2]; rfl
      omega
    · simp only [Value.slice.injEq] at h1
      have e := h3 j (by rw [ofN_len]; exact hj)
      refine ⟨g,h1.1,?_,hl _ (List.mem_of_getElem? hg),hg⟩
      rw [e]
      simp [ofN,hj]
  have hk0 : (0 : Int) ≤ (k : Int) := by omega
  have hk1 : (k : Int) < (n : Int) := by omega
  clear hvs hU ho hO hl hv
  go_enter Tryz.func69,Tryz.ntmps69
  go_wp2_with fail
  go_loop [8,9,17] (fun ov nv jv => ∃ (j o m : Nat),j ≤ l.length ∧ jv = .int .i64 j ∧ ov = .int .i64 o ∧ nv = .int .i64 m ∧ m ≤ j ∧ Hid (o = lastN ((l.take j).filter S) ∧ m = ((l.take j).filter S).length)) (fun _ _ jv => l.length - (intOf jv).toNat)
  case atStart => exact ⟨0,0,0,Nat.zero_le _,rfl,rfl,rfl,Nat.le_refl _,⟨rfl,rfl⟩⟩
  case round =>
    obtain ⟨j,o,m,hj,rfl,rfl,rfl,hmj,hom⟩ := hrel
    by_cases hjl : j < l.length
    · obtain ⟨g,rfl,hc,hu,hg⟩ := HF.out j hjl
      obtain ⟨u,hue⟩ : ∃ u,u = l.getD j 0 := ⟨_,rfl⟩
      rw [← hue] at hc hu hg
      have HG : Hid (l[j]? = some u) := hg
      have hb := HO.out.cell u (bc_get S hu)
      obtain ⟨s,hs⟩ : ∃ s,s = S u := ⟨_,rfl⟩
      rw [← hs] at hb
      have HS : Hid (s = S u) := hs
      have hu0 : (0 : Int) ≤ (u : Int) := by omega
      have hu1 : (u : Int) < (n : Int) := by omega
      have hj0 : (0 : Int) ≤ (j : Int) := by omega
      have hj1 : (j : Int) < (l.length : Int) := by omega
      clear hue hs hg
      cases s with
      | false =>
        have HN : Hid (o = lastN ((l.take (j + 1)).filter S) ∧ m = ((l.take (j + 1)).filter S).length) := by
          rw [take_filter S HG.out,← HS.out]
          exact hom.out
        go_wp2_with fail
        go_round
        case rel => exact ⟨j + 1,o,m,by omega,by go_num,rfl,rfl,by omega,HN⟩
        case measure => simp [intOf]; omega
      | true =>
        have HN : Hid (u = lastN ((l.take (j + 1)).filter S) ∧ m + 1 = ((l.take (j + 1)).filter S).length) := by
          rw [take_filter S HG.out,← HS.out,if_pos rfl,lastN_snoc,List.length_append,← hom.out.2]
          exact ⟨rfl,rfl⟩
        go_wp2_with fail
        go_round
        case rel => exact ⟨j + 1,u,m + 1,by omega,by go_num,rfl,by go_num,by omega,HN⟩
        case measure => simp [intOf]; omega
    · have ej : j = l.length := by omega
      obtain ⟨q,hq⟩ : ∃ q,q = ((m : Int) == 1) := ⟨_,rfl⟩
      have HE : Hid (lastN (l.filter S) = o ∧ (((l.filter S).length : Int) == 1) = q) := by
        have h := hom.out
        rw [ej,List.take_length] at h
        exact ⟨h.1.symm,by rw [hq,h.2]⟩
      have hq' : ((m : Int) == 1) = q := hq.symm
      clear hq
      subst ej
      go_wp2_with fail
      go_ret2
      exact ⟨by rw [HE.out.1,HE.out.2]; rfl,rfl⟩
end Go.Proofs.YtaoamkbcegadcaaGreatDoor
/- Layer 16: a map of one's own, ints to ints; the library's Backward over ints. -/
namespace Go.Proofs.YtaoamkbcegadcaaGreatDoor
open Go.RowKit Go.Bx Go.Od Go.Hp Go.Shelf
set_option linter.unusedVariables false

/-! ### the map -/
theorem zeroI (w : World) : (zeroValue 3).run Tryz.prog w = .ok (.int .i64 0) w := by kernel_rfl
theorem plainElem_int_inv' {H : Type} {P : Program} {e : TypeId} (he : P.underlying e = some (.int .i64)) {v : Value} {z : DataW H × List MemPlace} (h : plainElem P e v = some z) : ∃ x,v = .int .i64 x ∧ z = (.lit (.int .i64 x),[]) := by
  unfold plainElem at h
  rw [he] at h
  cases v with
  | int q x =>
    cases q <;> simp at h
    obtain ⟨_,rfl⟩ := h
    exact ⟨_,rfl,rfl⟩
  | _ => simp at h
theorem wfN {k : Nat} (h : k < 9223372036854775807) : (Lit.int .i64 k).wf = true := wfNat h
def MapI (w : World) (b n c : Nat) (m : Nat → Option Nat) : Prop :=
  ∃ (D : DataW Unit) (c' : Nat),c' ≤ c ∧ w.ownsMap Tryz.prog 3 (plainElem Tryz.prog 3) b c' D ∧ Go.Maps.IsMap D ∧ n ≤ 1000000 ∧ (∀ k v,m k = some v → v < n) ∧
    ∀ k : Nat,k < n → D.atKey (.int .i64 k) (.lit (.int .i64 0)) = .lit (.int .i64 ((m k).getD 0 : Nat)) ∧ Go.Maps.has D (.int .i64 k) = (m k).isSome
variable {w w' : World} {b n c : Nat} {m : Nat → Option Nat}
theorem MapI.kept {row : Option Nat} (h : MapI w b n c m) (hg : w.grownBy w' row) (hne : some b ≠ row) : MapI w' b n c m := by
  obtain ⟨D,c',h0,h1,h2,h3,h4⟩ := h
  exact ⟨D,c',h0,h1.kept hg hne,h2,h3,h4⟩
theorem MapI.alloc (h : MapI w b n c m) (o : Obj) : MapI (w.alloc o) b n c m := h.kept (World.grownBy_alloc w o .none) (by simp)
theorem MapI.lt (h : MapI w b n c m) : b < w.heap.size := by
  obtain ⟨D,c',_,h1,_⟩ := h
  exact h1.lt
theorem MapI.mono {c2 : Nat} (h : MapI w b n c m) (hc : c ≤ c2) : MapI w b n c2 m := by
  obtain ⟨D,c',h0,h1⟩ := h
  exact ⟨D,c',Nat.le_trans h0 hc,h1⟩
theorem MapI.bound (h : MapI w b n c m) {k v : Nat} (hm : m k = some v) : v < n := by
  obtain ⟨D,c',h0,h1,h2,h3,h4,_⟩ := h
  exact h4 k v hm
theorem MapI.made (w : World) (n : Nat) (hn : n ≤ 1000000) : MapI (w.alloc (.map #[] 0)) w.heap.size n 0 (fun _ => none) :=
  ⟨.map [],0,Nat.le_refl _,World.ownsMap_made w _ _ _,Go.Maps.isMap_empty,hn,(fun _ _ h => by cases h),fun k _ => ⟨by simp [DataW.atKey],by simp [Go.Maps.has]⟩⟩
theorem MapI.look (h : MapI w b n c m) {k : Nat} (hk : k < n) : (Instr.lookup 54 (.map (some b)) (.int .i64 k) false).run Tryz.prog w = .ok (.int .i64 ((m k).getD 0 : Nat)) w := by
  obtain ⟨D,c',h0,h1,h2,h3,h5,h4⟩ := h
  obtain ⟨v,ps,hrun,hv⟩ := h1.lookup keyInt Tryz.underlying54 (zeroI w) (plainElem_int Tryz.underlying3 (by decide)) (Maps.keyOf_int_mk Tryz.underlying3 (wfN (k := k) (by omega)))
  rw [(h4 k hk).1] at hv
  obtain ⟨x,rfl,hx⟩ := plainElem_int_inv' Tryz.underlying3 hv
  simp only [Prod.mk.injEq,DataW.lit.injEq,Lit.int.injEq,true_and] at hx
  rw [hrun,hx.1]
theorem MapI.look2 (h : MapI w b n c m) {k : Nat} (hk : k < n) : (Instr.lookup 54 (.map (some b)) (.int .i64 k) true).run Tryz.prog w = .ok (.tuple #[.int .i64 ((m k).getD 0 : Nat),.bool (m k).isSome]) w := by
  obtain ⟨D,c',h0,h1,h2,h3,h5,h4⟩ := h
  obtain ⟨v,ps,hrun,hv⟩ := h1.look_ok keyInt Tryz.underlying54 (zeroI w) (plainElem_int Tryz.underlying3 (by decide)) (Maps.keyOf_int_mk Tryz.underlying3 (wfN (k := k) (by omega)))
  rw [(h4 k hk).1] at hv
  obtain ⟨x,rfl,hx⟩ := plainElem_int_inv' Tryz.underlying3 hv
  simp only [Prod.mk.injEq,DataW.lit.injEq,Lit.int.injEq,true_and] at hx
  rw [hrun,hx.1,(h4 k hk).2]
theorem MapI.put (h : MapI w b n c m) {k v : Nat} (hk : k < n) (hv : v < n) (hs : c ≤ 100000) : ∃ w',(Instr.mapUpdate 54 (.map (some b)) (.int .i64 k) (.int .i64 v)).run Tryz.prog w = .ok () w' ∧ MapI w' b n (c + 1) (fun r => if r = k then some v else m r) ∧ w.grownBy w' (some b) := by
  obtain ⟨D,c',h0,h1,h2,h3,h5,h4⟩ := h
  obtain ⟨w',hrun,r1,r2⟩ := h1.update keyInt Tryz.underlying54 (by unfold maxLen; omega) (Maps.keyOf_int_mk Tryz.underlying3 (wfN (k := k) (by omega))) (plainElem_int Tryz.underlying3 (wfN (k := v) (by omega)))
  refine ⟨w',hrun,⟨_,c' + 1,by omega,r1,h2.put _ _,h3,fun j u hu => ?_,fun j hj => ?_⟩,r2⟩
  · have hu' : (if j = k then some v else m j) = some u := hu
    by_cases e : j = k
    · rw [if_pos e] at hu'; cases hu'; exact hv
    · rw [if_neg e] at hu'; exact h5 j u hu'
  · by_cases e : j = k
    · subst e
      rw [Go.Maps.atKey_put_same h2 (by trivial),Go.Maps.has_put_same h2 (by trivial)]
      simp
    · rw [Go.Maps.atKey_put_other (by simp; omega),(h4 j hj).1,Go.Maps.has_put_other (by simp; omega),(h4 j hj).2]
      simp [e]

/-! ### slices.Backward -/
def KpB (bm Bs : Nat) (W W' : World) : Prop := Below bm W W' ∧ W'.heap[Bs]? = W.heap[Bs]?
theorem KpB.refl (bm Bs : Nat) (W : World) : KpB bm Bs W W := ⟨Below.refl _ _,rfl⟩
theorem KpB.trans {bm Bs : Nat} {A B C : World} (h : KpB bm Bs A B) (k : KpB bm Bs B C) : KpB bm Bs A C := ⟨h.1.trans k.1,k.2.trans h.2⟩
section
attribute [local go_sem] Oper.semAt_some
set_option maxRecDepth 100000 in
set_option maxHeartbeats 2000000 in
theorem back1_f {nn : Nat} (F : Fence) (n : Nat) (h8 : F.fn 70) (hro : F.round = none) (hn : 1 ≤ n) (l Bs bm b off len cap : Nat) (zs : Nat → BkE nn) (hlen : len ≤ 1000000) (hb : b < bm) (J Jx : List (BkE nn) → World → Prop)
    (hY : ∀ pre x W,J pre W → pre.length < len → YieldAt F (n - 1) Tryz.prog l #[.int .i64 (x.1 : Int),.int .i64 (x.2.1 : Int)] W fun e W' =>
      (e = .returned (.bool true) ∧ J (pre ++ [x]) W' ∧ KpB bm Bs W W') ∨ (e = .returned (.bool false) ∧ Jx (pre ++ [x]) W'))
    (W : World) (hBs : W.cell? ⟨Bs,0,none⟩ = some (.slice (some ⟨b,off,none⟩) len cap)) (hc : ∀ j,j < len → W.cell? ⟨b,off + j,none⟩ = some (.int .i64 ((zs j).2.1 : Int))) (h0 : J [] W) :
    CallsIn F n Tryz.prog 70 #[.func (.yield l) #[] #[],.pointer (some ⟨Bs,0,none⟩)] W fun e W' => (∃ v,e = .returned v) ∧
      ((∃ ys,ys = bkUp (fun j => (len - 1 - j,(zs (len - 1 - j)).2)) len ∧ J ys W') ∨ (∃ pre,True ∧ Jx pre W')) := by
  refine callsIn_of_wp Tryz.func70 rfl h8 ?_ hro
  simp only [Tryz.ntmps70,List.size_toArray,List.length_cons,List.length_nil,Nat.reduceAdd,Nat.reduceSub,Array.replicate_succ,Array.replicate_zero,List.push_toArray,List.append_toArray,List.nil_append,List.cons_append]
  gi_wp2
  gi_loopw [3] (fun i wr => ∃ (k : Nat) (z : Int),k ≤ len ∧ i = .int .i64 z ∧ z = (len : Int) - 1 - k ∧ J (bkUp (fun j => (len - 1 - j,(zs (len - 1 - j)).2)) k) wr ∧ KpB bm Bs W wr)
    (fun i _ => (intOf i + 1).toNat)
  case atStart => exact ⟨0,_,Nat.zero_le _,rfl,by omega,h0,KpB.refl _ _ _⟩
  case round =>
    obtain ⟨k,z,hk,rfl,hz,hJs,hnx⟩ := hrel
    by_cases hlt : k < len
    · obtain ⟨p,hp⟩ : ∃ p : Nat,z = (p : Int) := ⟨len - 1 - k,by omega⟩
      have hpk : p = len - 1 - k := by omega
      have hpl : p < len := by omega
      subst hp
      have hcx : wr.cell? ⟨b,off + p,none⟩ = some (.int .i64 ((zs p).2.1 : Int)) := (hnx.1.cell (p := ⟨b,off + p,none⟩) hb).trans (hc p hpl)
      have hbx : wr.cell? ⟨Bs,0,none⟩ = some (.slice (some ⟨b,off,none⟩) len cap) := heap_at hnx.2 hBs
      obtain ⟨fn,tmps,assign,body,hy,hR⟩ := hY _ (p,(zs p).2) wr hJs (by rw [bkUp_len]; exact hlt)
      dsimp only at hy
      have hp0 : (0 : Int) ≤ (p : Int) := by omega
      have hp1 : (p : Int) < (len : Int) := by omega
      have HX : Hid (p = len - 1 - k ∧ KpB bm Bs W wr) := ⟨hpk,hnx⟩
      have HZ : Hid ((p : Int) = (len : Int) - 1 - k) := hz
      clear hz hpk hnx
      gi_wp2
      refine hR.mono ?_
      rintro e W3 (⟨rfl,hJ3,hk3⟩ | ⟨rfl,hJx3⟩)
      · gi_wp2
        go_roundw
        case rel => exact ⟨k + 1,_,by omega,rfl,by have := HZ.out; simp at this ⊢; omega,by rw [bkUp_succ,← HX.out.1]; exact hJ3,HX.out.2.trans hk3⟩
        case measure => first | (simp [intOf]; done) | (simp [intOf]; omega)
      · gi_wp2
        refine bodyPost_ret (results_none rfl _ _ _) rfl ?_
        exact ⟨⟨_,rfl⟩,.inr ⟨_,trivial,hJx3⟩⟩
    · obtain rfl : k = len := by omega
      have e1 : z = -1 := by omega
      subst e1
      clear hz
      gi_wp2
      go_end0
      exact ⟨⟨_,rfl⟩,.inl ⟨_,rfl,hJs⟩⟩
theorem back_stops_f {nn : Nat} (F : Fence) (n : Nat) (h8 : F.fn 70) (hro : F.round = none) (hn : 1 ≤ n) (Bs bm b off len cap : Nat) (zs : Nat → BkE nn) (hlen : len ≤ 1000000) (hb : b < bm) (w : World) (hBs : Bs < w.heap.size) (hbm : bm ≤ w.heap.size)
    (hc : w.cell? ⟨Bs,0,none⟩ = some (.slice (some ⟨b,off,none⟩) len cap)) (hI : ∀ j,j < len → w.cell? ⟨b,off + j,none⟩ = some (.int .i64 ((zs j).2.1 : Int))) :
    SeqStopsK F n Tryz.prog 70 #[.pointer (some ⟨Bs,0,none⟩)] (fun x : BkE nn => #[Value.int .i64 (x.1 : Int),Value.int .i64 (x.2.1 : Int)]) (KpB bm Bs) (fun ys => ys = bkUp (fun j => (len - 1 - j,(zs (len - 1 - j)).2)) len) (fun _ => True) len w := fun l J Jx W hW _ _ hY h0 =>
  back1_f F n h8 hro hn l Bs bm b off len cap zs hlen hb J Jx hY W ((hW.cell (p := ⟨Bs,0,none⟩) hBs).trans hc) (fun j hj => (hW.cell (p := ⟨b,off + j,none⟩) (Nat.lt_of_lt_of_le hb hbm)).trans (hI j hj)) h0
end
end Go.Proofs.YtaoamkbcegadcaaGreatDoor
/- Layer 16: fuse.leaders. -/
namespace Go.Proofs.YtaoamkbcegadcaaGreatDoor
open Go.RowKit Go.Bx Go.Od Go.Hp Go.Shelf
set_option linter.unusedVariables false

def ldCond (S : Nat → Bool) (us : Nat → List Nat) (op : Nat → Int) (out : Int) (on : Bool) (k : Nat) : Bool :=
  on && (((((us k).filter S).length : Int) == 1) && (!((k : Int) == out) && (byPt (op k) && byPt (op (lastN ((us k).filter S))))))
def setM (m : Nat → Option Nat) (k v : Nat) : Nat → Option Nat := fun r => if r = k then some v else m r
def ldStep (S : Nat → Bool) (us : Nat → List Nat) (op : Nat → Int) (out : Int) (on : Bool) (m : Nat → Option Nat) (k : Nat) : Nat → Option Nat :=
  if S k then (if ldCond S us op out on k then setM (setM m k k) k ((setM m k k (lastN ((us k).filter S))).getD 0) else setM m k k) else m
def ldFold {n : Nat} (S : Nat → Bool) (us : Nat → List Nat) (op : Nat → Int) (out : Int) (on : Bool) (pre : List (BkE n)) : Nat → Option Nat :=
  pre.foldl (fun m x => ldStep S us op out on m x.2.1) fun _ => none
theorem ldFold_snoc {n : Nat} (S : Nat → Bool) (us : Nat → List Nat) (op : Nat → Int) (out : Int) (on : Bool) (pre : List (BkE n)) (x : BkE n) : ldFold S us op out on (pre ++ [x]) = ldStep S us op out on (ldFold S us op out on pre) x.2.1 := by
  simp [ldFold]
theorem ldFold_all {n : Nat} {all : List Nat} (S : Nat → Bool) (us : Nat → List Nat) (op : Nat → Int) (out : Int) (on : Bool) (f : Nat → BkE n) (h : ∀ j,j < all.length → (f j).2.1 = all.getD (all.length - 1 - j) 0) : ldFold S us op out on (bkUp f all.length) = all.reverse.foldl (ldStep S us op out on) fun _ => none := by
  have e : (bkUp f all.length).map (fun x => x.2.1) = all.reverse := by
    apply List.ext_getElem
    · simp [bkUp]
    · intro i h1 h2
      have hi : i < all.length := by simpa using h2
      have := h i hi
      simp [bkUp] at this ⊢
      rw [this]
      simp [show all.length - 1 - i < all.length by omega]
  rw [← e,List.foldl_map]
  rfl
def LdPost (w : World) (n : Nat) (m : Nat → Option Nat) (e : Ending) (w' : World) : Prop := ∃ bm,w.heap.size ≤ bm ∧ e = .returned (.map (some bm)) ∧ MapI w' bm n 4000 m ∧ Below w.heap.size w w'
section
attribute [local go_sem] Oper.semAt_some
set_option maxRecDepth 100000 in
set_option maxHeartbeats 4000000 in
theorem leaders_in (F : Fence) (N : Nat) (hfn : ∀ f,F.fn f) (hro : F.round = none) (hN : 6 ≤ N) (hcw : ∀ {m : Nat} {P : Program} {f : FuncId} {args : Array Value} {w : World} {R : Ending → World → Prop},Calls P f args w R → CallsIn F m P f args w R) (B Ba : Nat) (nv allv : Value) (nds : List Nd) (out : Int) (on : Bool) (all : List Nat) (w : World) (hm : nds.length ≤ 999) (hl : ∀ i,i < nds.length → (nds.getD i Nd.none).ins.length ≤ 1000) (hg : Gr B w nv nds) (hB : B ≤ w.heap.size)
    (ho : OwnP w Ba allv (ofN all)) (hne : 0 < all.length) (hal : all.length ≤ 1000) (hab : ∀ k ∈ all,k < nds.length) :
    CallsIn F N Tryz.prog 47 #[.agg #[nv,.int .i64 out],allv,.bool on] w
      (LdPost w nds.length (all.reverse.foldl (ldStep (ned (insOf nds) out) (users (insOf nds)) (fun k => (nds.getD k Nd.none).op) out on) fun _ => none)) := by
  have h1N : 1 ≤ N := by omega
  obtain ⟨n,hn⟩ : ∃ n,n = nds.length := ⟨_,rfl⟩
  have hmm := @run_makeMap Tryz.prog
  obtain ⟨ga,gc,rfl⟩ := hg.isSl
  have hgl := hg.len_le
  obtain ⟨ab,ac,rfl,hac,hacm,habl,hacc⟩ : ∃ ab ac,allv = .slice (some ⟨ab,0,none⟩) all.length ac ∧ all.length ≤ ac ∧ ac ≤ maxLen ∧ ab < w.heap.size ∧ ∀ j,j < all.length → w.cell? ⟨ab,j,none⟩ = some (.int .i64 (all.getD j 0 : Nat)) := by
    rcases ho.form with ⟨_,h⟩ | ⟨g,cap,h1,_,h2,h3,h4,_,_,h5⟩
    · have : all.length = 0 := by rw [← ofN_len,h]; rfl
      omega
    · rw [ofN_len] at h1 h3 h5
      refine ⟨g,cap,h1,h3,h4,h2,fun j hj => ?_⟩
      rw [h5 j hj]
      simp [ofN,hj]
  have X := Box.new w [.slice ga nds.length gc,.int .i64 out] 24
  have B1 : Below w.heap.size w ((w.alloc (.cells #[.slice ga nds.length gc,.int .i64 out] 24)).alloc (.cells #[.bool on] 4)) := ((Below.refl _ w).alloc (Nat.le_refl _) _).alloc (by rw [size_alloc]; omega) _
  have X2 := X.alloc (.cells #[.bool on] 4)
  have Y2 := Box.new (w.alloc (.cells #[.slice ga nds.length gc,.int .i64 out] 24)) [.bool on] 4
  rw [size_alloc] at Y2
  have hsz : ((w.alloc (.cells #[.slice ga nds.length gc,.int .i64 out] 24)).alloc (.cells #[.bool on] 4)).heap.size = w.heap.size + 2 := by rw [size_alloc,size_alloc]
  obtain ⟨W2,hW2⟩ : ∃ W,W = ((w.alloc (.cells #[.slice ga nds.length gc,.int .i64 out] 24)).alloc (.cells #[.bool on] 4)) := ⟨_,rfl⟩
  rw [← hW2] at B1 X2 Y2 hsz
  have HW : Hid (W2 = ((w.alloc (.cells #[.slice ga nds.length gc,.int .i64 out] 24)).alloc (.cells #[.bool on] 4))) := hW2
  clear hW2 X
  have HN : Hid (∀ (m : Nat) (W : World),Below w.heap.size w W → CallsIn F m Tryz.prog 35 #[.agg #[.slice ga nds.length gc,.int .i64 out]] W (NePost W nds.length (ned (insOf nds) out))) := fun m W hb =>
    hcw (needed_c B _ nds out W hm hl (hg.below hb hB) (Nat.le_trans hB hb.size))
  have HU : Hid (∀ (m : Nat) (W : World),Below w.heap.size w W → CallsIn F m Tryz.prog 66 #[.agg #[.slice ga nds.length gc,.int .i64 out]] W (UsPost W nds.length (users (insOf nds)))) := fun m W hb =>
    hcw (uses_c B _ nds out W hm hl (hg.below hb hB) (Nat.le_trans hB hb.size))
  have x0 := X2.cell 0 rfl
  have x1 := X2.cell 1 rfl
  refine callsIn_of_wp_marks Tryz.func47 rfl (hfn _) ?_ hro
  simp only [Tryz.ntmps47,List.size_toArray,List.length_cons,List.length_nil,Nat.reduceAdd,Nat.reduceSub,Array.replicate_succ,Array.replicate_zero,List.push_toArray,List.append_toArray,List.nil_append,List.cons_append]
  gi_wp2
  rw [← HW.out]
  gi_wp2_with (first
    | (gi_at_call 35; refine (HN.out _ _ B1).mono ?_; rintro e w3 ⟨O,hO,rfl,hbO,b3⟩; have z0 := cell_alloc_lt ((X2.call b3).cell 0 rfl) (.cells #[.slice (some ⟨O,0,none⟩) nds.length nds.length] 76); have z1 := cell_alloc_lt ((X2.call b3).cell 1 rfl) (.cells #[.slice (some ⟨O,0,none⟩) nds.length nds.length] 76))
    | (gi_at_call 66; refine (HU.out _ _ (B1.trans ((b3.trans (below_alloc _ _ |>.mono b3.size)).mono B1.size))).mono ?_; rintro e w4 ⟨U,vs,hU,rfl,hus,b4⟩)
    | (gi_at_call 48; refine (back_in F _ (hfn _) hro _ _ _ _).mono ?_; rintro e w' ⟨rfl,rfl⟩))
  -- THE LOOP
  obtain ⟨Wm,hWm⟩ : ∃ W,W = w4.alloc (.cells #[.slice (some ⟨U,0,none⟩) nds.length nds.length] 61) := ⟨_,rfl⟩
  have hms : Wm.heap.size = w4.heap.size + 1 := by rw [hWm,size_alloc]
  have b34 : Below (w3.alloc (.cells #[.slice (some ⟨O,0,none⟩) nds.length nds.length] 76)).heap.size (w3.alloc (.cells #[.slice (some ⟨O,0,none⟩) nds.length nds.length] 76)) Wm := by
    rw [hWm]; exact b4.trans ((below_alloc _ _).mono b4.size)
  have b24 : Below W2.heap.size W2 Wm := (b3.trans ((below_alloc _ _).mono b3.size)).trans (b34.mono (by rw [size_alloc]; have := b3.size; omega))
  have hBm : Below w.heap.size w Wm := B1.trans (b24.mono B1.size)
  have g0 := (X2.call b24).cell 0 rfl
  have g1 := (X2.call b24).cell 1 rfl
  have g2 := (Y2.call b24).cell 0 rfl
  have g3 := ((Box.new w3 [.slice (some ⟨O,0,none⟩) nds.length nds.length] 76).call b34).cell 0 rfl
  have hbO' : Box Wm O (bc nds.length (ned (insOf nds) out)) := (hbO.alloc _).call b34
  have g4 : Wm.cell? ⟨w4.heap.size,0,none⟩ = some (.slice (some ⟨U,0,none⟩) nds.length nds.length) := by rw [hWm]; exact (Box.new w4 [.slice (some ⟨U,0,none⟩) nds.length nds.length] 61).cell 0 rfl
  have hus' : US Wm U nds.length none (users (insOf nds)) vs := by rw [hWm]; exact hus.alloc _
  have hgm : Gr B Wm (.slice ga nds.length gc) nds := hg.below hBm hB
  have hacm : ∀ j,j < all.length → Wm.cell? ⟨ab,j,none⟩ = some (.int .i64 (all.getD j 0 : Nat)) := fun j hj => (hBm.cell (p := ⟨ab,j,none⟩) habl).trans (hacc j hj)
  have hM0 := MapI.made Wm nds.length (by omega)
  rw [hms] at hM0
  have e9 := ((Box.new (Wm.alloc (.map #[] 0)) [.map (some (w4.heap.size + 1))] 54).alloc (.cells #[.slice (some ⟨ab,0,none⟩) all.length ac] 35)).cell 0 rfl
  rw [size_alloc,hms] at e9
  have eS := (Box.new ((Wm.alloc (.map #[] 0)).alloc (.cells #[.map (some (w4.heap.size + 1))] 54)) [.slice (some ⟨ab,0,none⟩) all.length ac] 35).cell 0 rfl
  rw [size_alloc,size_alloc,hms] at eS
  have hB0 : Below Wm.heap.size Wm (((Wm.alloc (.map #[] 0)).alloc (.cells #[.map (some (w4.heap.size + 1))] 54)).alloc (.cells #[.slice (some ⟨ab,0,none⟩) all.length ac] 35)) := (((Below.refl _ _).alloc (Nat.le_refl _) _).alloc (by rw [size_alloc]; omega) _).alloc (by rw [size_alloc,size_alloc]; omega) _
  have hs0 : (((Wm.alloc (.map #[] 0)).alloc (.cells #[.map (some (w4.heap.size + 1))] 54)).alloc (.cells #[.slice (some ⟨ab,0,none⟩) all.length ac] 35)).heap.size = w4.heap.size + 4 := by rw [size_alloc,size_alloc,size_alloc,hms]
  have hM00 := (hM0.alloc (.cells #[.map (some (w4.heap.size + 1))] 54)).alloc (.cells #[.slice (some ⟨ab,0,none⟩) all.length ac] 35)
  rw [← hWm]
  obtain ⟨W0,hW0⟩ : ∃ W,W = ((Wm.alloc (.map #[] 0)).alloc (.cells #[.map (some (w4.heap.size + 1))] 54)).alloc (.cells #[.slice (some ⟨ab,0,none⟩) all.length ac] 35) := ⟨_,rfl⟩
  rw [← hW0] at e9 eS hB0 hs0 hM00 ⊢
  have hread : ∀ {W : World} {a : Addr} {v : Value},Below Wm.heap.size Wm W → Wm.cell? a = some v → W.cell? a = some v := fun hb h => (hb.cell (lt_of_cell h)).trans h
  have hus2 : ∀ {W : World},Below Wm.heap.size Wm W → US W U nds.length none (users (insOf nds)) vs := fun hb => hus'.grow hb
  have hbO2 : ∀ {W : World},Below Wm.heap.size Wm W → Box W O (bc nds.length (ned (insOf nds) out)) := fun hb => hbO'.call hb
  have hgm2 : ∀ {W : World},Below Wm.heap.size Wm W → Gr B W (.slice ga nds.length gc) nds := fun hb => hgm.below hb (by have := hBm.size; omega)
  have habm : ab < Wm.heap.size := Nat.lt_of_lt_of_le habl hBm.size
  have HQ : Hid (all.length ≤ 1000 ∧ nds.length ≤ 999 ∧ w.heap.size ≤ w4.heap.size + 1) := ⟨hal,hm,by have := hBm.size; omega⟩
  clear hbO hus b3 b4 b34 b24 hWm hg hM0 hW0 HN HU x0 x1 z0 z1 hacc X2 Y2 B1 HW ho hl hU hO
  obtain ⟨zs,hzs⟩ : ∃ zs : Nat → BkE nds.length,∀ j,j < all.length → ((zs j).2.1 = all.getD j 0) := by
    have hpos : 0 < nds.length := by
      have : all.getD 0 0 ∈ all := by
        have : all[0]? = some (all.getD 0 0) := by simp [hne]
        exact List.mem_of_getElem? this
      exact Nat.lt_of_le_of_lt (Nat.zero_le _) (hab _ this)
    refine ⟨fun j => if h : all.getD j 0 < nds.length then (0,⟨all.getD j 0,h⟩) else (0,⟨0,hpos⟩),fun j hj => ?_⟩
    have hlt : all.getD j 0 < nds.length := hab _ (List.mem_of_getElem? (show all[j]? = some (all.getD j 0) by simp [hj]))
    simp only [dif_pos hlt]
  have hkey : ∀ (pre : List (BkE nds.length)),OwnFrom W0.heap.size (fun (_ : List (BkE nds.length)) (W : World) => Below Wm.heap.size Wm W ∧ W.heap[w4.heap.size + 1 + 1]? = W0.heap[w4.heap.size + 1 + 1]? ∧ W.heap[w4.heap.size + 1 + 1 + 1]? = W0.heap[w4.heap.size + 1 + 1 + 1]?) := fun _ s A B' row hs hg' hr => by
    have hne : ∀ j,j < w4.heap.size + 4 → some j ≠ row := fun j hj e => by have := (hr j e.symm).1; rw [hs0] at this; omega
    have hszA : Wm.heap.size ≤ A.heap.size := hs.1.size
    refine ⟨hs.1.grown hg' hszA (fun k e => by have := (hr k e).1; rw [hs0] at this; omega),?_,?_⟩
    · have hlt : w4.heap.size + 1 + 1 < A.heap.size := by
        have h1 := heap_at (o := 0) hs.2.1 e9
        exact lt_of_cell h1
      exact (hg'.block _ hlt (hne _ (by omega))).trans hs.2.1
    · have hlt : w4.heap.size + 1 + 1 + 1 < A.heap.size := by
        have h1 := heap_at (o := 0) hs.2.2 eS
        exact lt_of_cell h1
      exact (hg'.block _ hlt (hne _ (by omega))).trans hs.2.2
  refine wpIn_rangeFunc_ownG hro h1N (gf := 70) (lb := #[.pointer (some ⟨w4.heap.size + 1 + 1 + 1,0,none⟩)]) rfl (hfn _) (enters_of Tryz.func70 (by kernel_rfl) rfl)
    (back_stops_f F (N - 1) (hfn _) hro (by omega) (w4.heap.size + 1 + 1 + 1) Wm.heap.size ab 0 all.length ac zs (by omega) habm W0 (by omega) (by omega) eS (fun j hj => by rw [hzs j hj,Nat.zero_add]; exact hread hB0 (hacm j hj)))
    (fun h k => h.trans k)
    (fun W l o o' hl ho hcell hwalk => ⟨belowK_b (w := W0) (by omega) W l o o' hl ho hcell hwalk,World.putObj_heap_other (by omega)⟩)
    (Below.refl _ _) (fun _ => rfl)
    (fun pre W => (Below Wm.heap.size Wm W ∧ W.heap[w4.heap.size + 1 + 1]? = W0.heap[w4.heap.size + 1 + 1]? ∧ W.heap[w4.heap.size + 1 + 1 + 1]? = W0.heap[w4.heap.size + 1 + 1 + 1]?) ∧
      MapI W (w4.heap.size + 1) nds.length (2 * pre.length) (ldFold (ned (insOf nds) out) (users (insOf nds)) (fun k => (nds.getD k Nd.none).op) out on pre))
    (fun _ _ _ => False)
    (fun s A B' row hs hg' hr => ⟨hkey s s A B' row hs.1 hg' hr,hs.2.kept hg' (fun e => by have := (hr _ e.symm).1; rw [hs0] at this; omega)⟩)
    (fun _ _ _ _ _ hs _ _ => hs)
    ⟨⟨hB0,rfl,rfl⟩,hM00⟩
    (fun x => { tmps := #[.agg #[.slice ga nds.length gc,.int .i64 out],.slice (some ⟨ab,0,none⟩) all.length ac,.bool on,.pointer (some ⟨w.heap.size,0,none⟩),undef,.pointer (some ⟨w.heap.size + 1,0,none⟩),.map none,.pointer (some ⟨w3.heap.size,0,none⟩),.pointer (some ⟨w4.heap.size,0,none⟩),.pointer (some ⟨w4.heap.size + 1 + 1,0,none⟩),undef,.int .i64 (x.2.1 : Int),undef,undef,
      .agg #[.slice ga nds.length gc,.int .i64 out],.slice (some ⟨O,0,none⟩) nds.length nds.length,.agg #[.slice ga nds.length gc,.int .i64 out],.slice (some ⟨U,0,none⟩) nds.length nds.length,.map (some (w4.heap.size + 1)),.slice (some ⟨ab,0,none⟩) all.length ac,.func (.func 70) #[] #[.pointer (some ⟨w4.heap.size + 1 + 1 + 1,0,none⟩)],.int .i64 (x.1 : Int),.int .i64 (x.2.1 : Int),undef,undef,undef,undef,undef,undef,undef,undef,undef,undef,undef,undef,undef,undef,undef,undef,undef,undef,undef,undef,undef,undef,undef,undef,undef,undef,undef,undef,undef,undef,undef,undef,undef,undef,undef,undef,undef,undef,undef,undef,undef,undef,undef,undef,undef,undef,undef,undef,undef],defers := [] }) ?assign ?body ?done ?stop
  case assign =>
    intro l x W K hK
    gi_wp2
    exact hK
  case body =>
    rintro l pre ⟨i,k,hk⟩ W ⟨⟨hB,h9,hS⟩,hM⟩ hlt
    have hN2 : 1 ≤ N - 1 - 1 := by omega
    have f0 := hread hB g0
    have f1 := hread hB g1
    have f2 := hread hB g2
    have f3 := hread hB g3
    have f4 := hread hB g4
    have f9 := heap_at (o := 0) h9 e9
    have fS := heap_at (o := 0) hS eS
    have fO := (hbO2 hB).cell k (bc_get _ hk)
    obtain ⟨m,hm⟩ : ∃ m,m = ldFold (ned (insOf nds) out) (users (insOf nds)) (fun k => (nds.getD k Nd.none).op) out on pre := ⟨_,rfl⟩
    rw [← hm] at hM
    have HM : Hid (ldFold (ned (insOf nds) out) (users (insOf nds)) (fun k => (nds.getD k Nd.none).op) out on (pre ++ [(i,⟨k,hk⟩)]) = ldStep (ned (insOf nds) out) (users (insOf nds)) (fun k => (nds.getD k Nd.none).op) out on m k) := by
      rw [hm]; exact ldFold_snoc _ _ _ _ _ _ _
    clear hm
    have hk0 : (0 : Int) ≤ (k : Int) := by omega
    have hk1 : (k : Int) < (nds.length : Int) := by omega
    cases hSk : ned (insOf nds) out k with
    | false =>
      rw [hSk] at fO
      have HE : Hid (ldStep (ned (insOf nds) out) (users (insOf nds)) (fun k => (nds.getD k Nd.none).op) out on m k = m) := by
        have : ldStep (ned (insOf nds) out) (users (insOf nds)) (fun k => (nds.getD k Nd.none).op) out on m k = m := by
          unfold ldStep
          rw [hSk,if_neg (by simp)]
        exact this
      clear hSk
      gi_wp2
      exact ⟨KeepsFrom.refl _ _,KpB.refl _ _ _,⟨hB,h9,hS⟩,by rw [HM.out,HE.out]; exact hM.mono (by rw [List.length_append]; omega)⟩
    | true =>
      rw [hSk] at fO
      have hpl : pre.length < 1000 := Nat.lt_of_lt_of_le hlt HQ.out.1
      obtain ⟨w1,hr1,hm1,hg1⟩ := hM.put hk hk (by omega)
      have HM1 : Hid (MapI w1 (w4.heap.size + 1) nds.length (2 * pre.length + 1) (setM m k k)) := hm1
      have B1 : Below Wm.heap.size Wm w1 := hB.grown hg1 hB.size (fun j e => by cases e; omega)
      have l9 : w4.heap.size + 1 + 1 < W.heap.size := lt_of_cell f9
      have lS : w4.heap.size + 1 + 1 + 1 < W.heap.size := lt_of_cell fS
      have i9 : w1.heap[w4.heap.size + 1 + 1]? = W0.heap[w4.heap.size + 1 + 1]? := (hg1.block _ l9 (by simp)).trans h9
      have iS1 : w1.heap[w4.heap.size + 1 + 1 + 1]? = W.heap[w4.heap.size + 1 + 1 + 1]? := hg1.block _ lS (by simp; omega)
      have iS : w1.heap[w4.heap.size + 1 + 1 + 1]? = W0.heap[w4.heap.size + 1 + 1 + 1]? := iS1.trans hS
      have HK : Hid (KeepsFrom W0.heap.size W w1 ∧ KpB Wm.heap.size (w4.heap.size + 1 + 1 + 1) W w1) := ⟨KeepsFrom.of_grownBy hg1 (fun j e => by cases e; omega),(Below.refl _ W).grown hg1 hB.size (fun j e => by cases e; omega),iS1⟩
      have HI : Hid (Below Wm.heap.size Wm w1 ∧ w1.heap[w4.heap.size + 1 + 1]? = W0.heap[w4.heap.size + 1 + 1]? ∧ w1.heap[w4.heap.size + 1 + 1 + 1]? = W0.heap[w4.heap.size + 1 + 1 + 1]?) := ⟨B1,i9,iS⟩
      have y0 := hread B1 g0
      have y1 := hread B1 g1
      have y2 := hread B1 g2
      have y3 := hread B1 g3
      have y4 := hread B1 g4
      have y9 := heap_at (o := 0) i9 e9
      obtain ⟨L,hL⟩ : ∃ L,L = (users (insOf nds) k).filter (ned (insOf nds) out) := ⟨_,rfl⟩
      obtain ⟨u,hu⟩ : ∃ u,u = lastN L := ⟨_,rfl⟩
      obtain ⟨q,hq⟩ : ∃ q,q = ((L.length : Int) == 1) := ⟨_,rfl⟩
      have hulen : ∀ r ∈ users (insOf nds) k,r < nds.length := fun r hr => by
        have := List.mem_range.1 (List.mem_filter.1 hr).1
        rwa [insOf_len] at this
      have hul2 : (users (insOf nds) k).length ≤ 1000 := by
        have h1 : (users (insOf nds) k).length ≤ (List.range (insOf nds).length).length := List.length_filter_le _ _
        rw [List.length_range,insOf_len] at h1
        have := HQ.out.2.1
        omega
      have HU : Hid (q = true → u < nds.length) := fun e => by
        rw [hq] at e
        have e1 : L.length = 1 := by have := eq_of_beq e; omega
        obtain ⟨x,hx⟩ := List.length_eq_one_iff.1 e1
        have hm : x ∈ L := by rw [hx]; simp
        rw [hu,hx]
        rw [hL] at hm
        exact hulen x (List.mem_filter.1 hm).1
      have HUS : Hid (∀ j,CallsIn F j Tryz.prog 69 #[.slice (some ⟨U,0,none⟩) nds.length nds.length,.slice (some ⟨O,0,none⟩) nds.length nds.length,.int .i64 k] w1 fun e w' => e = .returned (.tuple #[.int .i64 u,.bool q]) ∧ w' = w1) := fun j => by
        have hh := user_c (U + 1) U O k nds.length vs (users (insOf nds) k) (ned (insOf nds) out) w1 (by have := HQ.out.2.1; omega) hk hus'.len (hus2 B1).box ((hus2 B1).own k hk) (hbO2 B1) hulen hul2
        rw [← hL,← hu,← hq] at hh
        exact hcw hh
      obtain ⟨ok,hok⟩ : ∃ ok,ok = (nds.getD k Nd.none).op := ⟨_,rfl⟩
      obtain ⟨ou,hou⟩ : ∃ ou,ou = (nds.getD u Nd.none).op := ⟨_,rfl⟩
      obtain ⟨p1,hp1⟩ : ∃ p1,p1 = byPt ok := ⟨_,rfl⟩
      obtain ⟨p2,hp2⟩ : ∃ p2,p2 = byPt ou := ⟨_,rfl⟩
      have HP1 : Hid (∀ (j : Nat) (W : World),CallsIn F j Tryz.prog 61 #[.int .i64 ok] W fun e w' => e = .returned (.bool p1) ∧ w' = W) := fun j W => by
        rw [hp1]; exact hcw (bypoint_c ok W)
      have HP2 : Hid (∀ (j : Nat) (W : World),CallsIn F j Tryz.prog 61 #[.int .i64 ou] W fun e w' => e = .returned (.bool p2) ∧ w' = W) := fun j W => by
        rw [hp2]; exact hcw (bypoint_c ou W)
      have HC : Hid (ldCond (ned (insOf nds) out) (users (insOf nds)) (fun k => (nds.getD k Nd.none).op) out on k = (on && (q && (!((k : Int) == out) && (p1 && p2))))) := by
        have : ldCond (ned (insOf nds) out) (users (insOf nds)) (fun k => (nds.getD k Nd.none).op) out on k = (on && (q && (!((k : Int) == out) && (p1 && p2)))) := by
          unfold ldCond
          rw [hq,hp1,hp2,hok,hou,hu,hL]
        exact this
      have HNO : Hid (ldCond (ned (insOf nds) out) (users (insOf nds)) (fun k => (nds.getD k Nd.none).op) out on k = false → MapI w1 (w4.heap.size + 1) nds.length (2 * (pre ++ [(i,(⟨k,hk⟩ : { k : Nat // k < nds.length }))]).length) (ldFold (ned (insOf nds) out) (users (insOf nds)) (fun k => (nds.getD k Nd.none).op) out on (pre ++ [(i,⟨k,hk⟩)]))) := fun hc => by
        have e : ldStep (ned (insOf nds) out) (users (insOf nds)) (fun k => (nds.getD k Nd.none).op) out on m k = setM m k k := by
          unfold ldStep
          rw [hSk,if_pos rfl,hc,if_neg (by simp)]
        rw [HM.out,e]
        exact HM1.out.mono (by rw [List.length_append]; simp; omega)
      have HYES : Hid (ldCond (ned (insOf nds) out) (users (insOf nds)) (fun k => (nds.getD k Nd.none).op) out on k = true → ldFold (ned (insOf nds) out) (users (insOf nds)) (fun k => (nds.getD k Nd.none).op) out on (pre ++ [(i,⟨k,hk⟩)]) = setM (setM m k k) k ((setM m k k u).getD 0)) := fun hc => by
        have e : ldStep (ned (insOf nds) out) (users (insOf nds)) (fun k => (nds.getD k Nd.none).op) out on m k = setM (setM m k k) k ((setM m k k u).getD 0) := by
          unfold ldStep
          rw [hSk,if_pos rfl,hc,if_pos rfl,hu,hL]
        rw [HM.out,e]
      obtain ⟨gb,go,gcap,ia,ic,pa,pc,hv,hbB,hcap,hcm,k0,k1,k2,s1,s2⟩ := (hgm2 B1).node hk
      have HN2 : Hid (u < nds.length → ∀ gb go gcap,Value.slice ga nds.length gc = .slice (some ⟨gb,go,none⟩) nds.length gcap → w1.cell? ⟨gb,go + u * 3,none⟩ = some (.int .i64 ou)) := fun hun gb go gcap hv => by
        obtain ⟨gb',go',gcap',_,_,_,_,hv',_,_,_,k0',_⟩ := (hgm2 B1).node hun
        rw [hv'] at hv
        simp only [Value.slice.injEq,Option.some.injEq,Addr.mk.injEq] at hv
        obtain ⟨⟨rfl,rfl,_⟩,_⟩ := hv
        rw [hou]
        exact k0'
      rw [← hok] at k0
      simp only [Value.slice.injEq] at hv
      obtain ⟨rfl,_,rfl⟩ := hv
      have HIN : Hid (u < nds.length → (0 : Int) ≤ (u : Int) ∧ (u : Int) < (nds.length : Int) ∧ w1.cell? ⟨gb,go + u * 3,none⟩ = some (.int .i64 ou)) := fun h => ⟨by omega,by omega,HN2.out h _ _ _ rfl⟩
      have HMK : Hid (MapI w1 (w4.heap.size + 1) nds.length (2 * pre.length + 1) (setM m k k) ∧ k < nds.length) := ⟨HM1.out,hk⟩
      unfold maxLen at hcm
      clear HN2 k1 k2 s1 s2 hL hu hq hulen hul2 hok hou hp1 hp2 hm1 hM hus' hbO' hgm hSk hg1 l9 lS i9 iS1 iS h9 hS B1 hB
      cases on with
      | false =>
        have HE := HNO.out (by rw [HC.out]; rfl)
        have HEH : Hid _ := HE
        clear HE HC HNO HYES
        gi_wp2_with (first | (gi_at_call 69; refine (CallsIn.inRound l (HUS.out _)).mono ?_; rintro e w5 ⟨rfl,rfl⟩))
        exact ⟨HK.out.1,HK.out.2,HI.out,HEH.out⟩
      | true =>
        cases q with
        | false =>
          have HE := HNO.out (by rw [HC.out]; rfl)
          have HEH : Hid _ := HE
          clear HE HC HNO HYES
          gi_wp2_with (first | (gi_at_call 69; refine (CallsIn.inRound l (HUS.out _)).mono ?_; rintro e w5 ⟨rfl,rfl⟩))
          exact ⟨HK.out.1,HK.out.2,HI.out,HEH.out⟩
        | true =>
          have hun := HU.out rfl
          obtain ⟨hu0,hu1,hcu⟩ := HIN.out hun
          by_cases hko : (k : Int) = out
          · have hko1 : ((k : Int) != out) = false := by simp [hko]
            have HE := HNO.out (by rw [HC.out]; simp [hko])
            have HEH : Hid _ := HE
            clear HE HC HNO HYES hko
            gi_wp2_with (first | (gi_at_call 69; refine (CallsIn.inRound l (HUS.out _)).mono ?_; rintro e w5 ⟨rfl,rfl⟩))
            exact ⟨HK.out.1,HK.out.2,HI.out,HEH.out⟩
          · have hko1 : ((k : Int) != out) = true := by simp [hko]
            have hko2 : ((k : Int) == out) = false := beq_eq_false_iff_ne.2 hko
            cases p1 with
            | false =>
              have HE := HNO.out (by rw [HC.out,hko2]; rfl)
              have HEH : Hid _ := HE
              clear HE HC HNO HYES hko hko2
              gi_wp2_with (first | (gi_at_call 69; refine (CallsIn.inRound l (HUS.out _)).mono ?_; rintro e w5 ⟨rfl,rfl⟩) | (gi_at_call 61; with_reducible refine (CallsIn.inRound l (HP1.out _ _)).mono ?_; rintro e w5 ⟨rfl,rfl⟩))
              exact ⟨HK.out.1,HK.out.2,HI.out,HEH.out⟩
            | true =>
              cases p2 with
              | false =>
                have HE := HNO.out (by rw [HC.out,hko2]; rfl)
                have HEH : Hid _ := HE
                clear HE HC HNO HYES hko hko2
                gi_wp2_with (first | (gi_at_call 69; refine (CallsIn.inRound l (HUS.out _)).mono ?_; rintro e w5 ⟨rfl,rfl⟩) | (gi_at_call 61; with_reducible refine (CallsIn.inRound l (HP1.out _ _)).mono ?_; rintro e w5 ⟨rfl,rfl⟩) | (gi_at_call 61; with_reducible refine (CallsIn.inRound l (HP2.out _ _)).mono ?_; rintro e w5 ⟨rfl,rfl⟩))
                exact ⟨HK.out.1,HK.out.2,HI.out,HEH.out⟩
              | true =>
                have HE := HYES.out (by rw [HC.out,hko2]; rfl)
                obtain ⟨v,hv⟩ : ∃ v,v = (setM m k k u).getD 0 := ⟨_,rfl⟩
                have hvn : v < nds.length := by
                  rw [hv]
                  cases e : setM m k k u with
                  | none => simp; omega
                  | some x => exact HMK.out.1.bound e
                have hl2 := HMK.out.1.look hun
                rw [← hv] at hl2 HE
                have HEH : Hid (ldFold (ned (insOf nds) out) (users (insOf nds)) (fun k => (nds.getD k Nd.none).op) out true (pre ++ [(i,⟨k,hk⟩)]) = setM (setM m k k) k v) := HE
                obtain ⟨w2,hr2,hm2,hg2⟩ := HMK.out.1.put hk hvn (by omega)
                have HFIN : Hid (KeepsFrom W0.heap.size W w2 ∧ KpB Wm.heap.size (w4.heap.size + 1 + 1 + 1) W w2 ∧ (Below Wm.heap.size Wm w2 ∧ w2.heap[w4.heap.size + 1 + 1]? = W0.heap[w4.heap.size + 1 + 1]? ∧ w2.heap[w4.heap.size + 1 + 1 + 1]? = W0.heap[w4.heap.size + 1 + 1 + 1]?) ∧ MapI w2 (w4.heap.size + 1) nds.length (2 * (pre ++ [(i,(⟨k,hk⟩ : { k : Nat // k < nds.length }))]).length) (ldFold (ned (insOf nds) out) (users (insOf nds)) (fun k => (nds.getD k Nd.none).op) out true (pre ++ [(i,⟨k,hk⟩)]))) := by
                  obtain ⟨B1,i9,iS⟩ := HI.out
                  have l9 : w4.heap.size + 1 + 1 < w1.heap.size := lt_of_cell y9
                  have lS : w4.heap.size + 1 + 1 + 1 < w1.heap.size := lt_of_cell (heap_at (o := 0) iS eS)
                  have iS2 : w2.heap[w4.heap.size + 1 + 1 + 1]? = w1.heap[w4.heap.size + 1 + 1 + 1]? := hg2.block _ lS (by simp; omega)
                  refine ⟨HK.out.1.trans (KeepsFrom.of_grownBy hg2 (fun j e => by cases e; omega)),HK.out.2.trans ⟨(Below.refl _ w1).grown hg2 B1.size (fun j e => by cases e; omega),iS2⟩,⟨B1.grown hg2 B1.size (fun j e => by cases e; omega),(hg2.block _ l9 (by simp)).trans i9,iS2.trans iS⟩,?_⟩
                  rw [HEH.out]
                  exact MapI.mono (m := setM (setM m k k) k v) hm2 (by rw [List.length_append]; simp; omega)
                clear HE HC HNO HYES hko hko2 hv HEH hm2 hg2
                gi_wp2_with (first | (gi_at_call 69; refine (CallsIn.inRound l (HUS.out _)).mono ?_; rintro e w5 ⟨rfl,rfl⟩) | (gi_at_call 61; with_reducible refine (CallsIn.inRound l (HP1.out _ _)).mono ?_; rintro e w5 ⟨rfl,rfl⟩) | (gi_at_call 61; with_reducible refine (CallsIn.inRound l (HP2.out _ _)).mono ?_; rintro e w5 ⟨rfl,rfl⟩))
                exact HFIN.out
  case done =>
    rintro D ys W hD rfl ⟨⟨hB,h9,hS⟩,hM⟩ hK
    have f9 := heap_at (o := 0) h9 e9
    have HH : Hid (Below Wm.heap.size Wm W ∧ MapI W (w4.heap.size + 1) nds.length 4000 (all.reverse.foldl (ldStep (ned (insOf nds) out) (users (insOf nds)) (fun k => (nds.getD k Nd.none).op) out on) fun _ => none)) := by
      refine ⟨hB,?_⟩
      have e := ldFold_all (all := all) (n := nds.length) (ned (insOf nds) out) (users (insOf nds)) (fun k => (nds.getD k Nd.none).op) out on (fun j => (all.length - 1 - j,(zs (all.length - 1 - j)).2)) (fun j hj => hzs _ (by omega))
      rw [e] at hM
      exact hM.mono (by rw [bkUp_len]; omega)
    clear hM hB h9 hS
    gi_wp2
    refine ⟨by simp,.inl ⟨_,_,rfl,run_takeDeferred hK,?_⟩⟩
    refine ⟨_,results_tmp rfl _ _ _,w4.heap.size + 1,HQ.out.2.2,rfl,HH.out.2.kept (grownBy_putObj' W D _) (fun e => by cases e; omega),?_⟩
    exact (hBm.trans (HH.out.1.mono hBm.size)).trans (belowK_b (w := W0) (by have := hBm.size; omega) W D _ _ (by omega) hK rfl rfl)
  case stop =>
    rintro D c pre W _ _ h _
    exact h.elim
end
end Go.Proofs.YtaoamkbcegadcaaGreatDoor
/- Layer 16: a map of one's own, ints to rows of ints; rows of rows that grow. -/
namespace Go.Proofs.YtaoamkbcegadcaaGreatDoor
open Go.RowKit Go.Bx Go.Od Go.Hp Go.Shelf Go.ChangeMaps Go.ChangeShapes
set_option linter.unusedVariables false

theorem zeroSI (w : World) : (zeroValue 35).run Tryz.prog w = .ok (.slice none 0 0) w := by kernel_rfl
theorem rows_apart {w : World} {B1 B2 s1 s2 n1 n2 k : Nat} {e1 e2 : TypeId} {v1 v2 : Value} {x1 x2 : List Value} (h1 : w.ownsRow B1 e1 s1 v1 n1 x1) (h2 : w.ownsRow B2 e2 s2 v2 n2 x2) (he : e1 ≠ e2) (hk : v1.ownBlock = some k) : v2.ownBlock ≠ some k := by
  intro hk2
  rcases h1.2 with ⟨rfl,_⟩ | ⟨g1,c1,cur1,rfl,_,b1,_⟩
  · cases hk
  · rcases h2.2 with ⟨rfl,_⟩ | ⟨g2,c2,cur2,rfl,_,b2,_⟩
    · cases hk2
    · simp [Value.ownBlock] at hk hk2
      subst hk hk2
      rw [b1] at b2
      simp at b2
      exact he b2.2
theorem row_sl {w : World} {B n : Nat} {e : TypeId} {v : Value} {xs : List Value} (h : w.ownsRow B e 1 v n xs) : ∃ a c,v = .slice a n c := by
  rcases h.2 with ⟨rfl,rfl⟩ | ⟨g,c,_,rfl,_⟩
  · exact ⟨none,0,rfl⟩
  · exact ⟨_,c,rfl⟩
theorem row_mono {w : World} {B C n : Nat} {e : TypeId} {v : Value} {xs : List Value} (h : w.ownsRow B e 1 v n xs) (hC : C ≤ B) : w.ownsRow C e 1 v n xs :=
  ⟨h.1,h.2.imp id fun ⟨g,cap,cur,hv,hB',rest⟩ => ⟨g,cap,cur,hv,Nat.le_trans hC hB',rest⟩⟩

/-! ### the map -/
def MapG (w : World) (b base n c : Nat) (m : Nat → List Nat) : Prop :=
  ∃ (D : DataW Unit) (c' : Nat),c' ≤ c ∧ w.ownsGroups Tryz.prog 3 base 3 .i64 b c' D ∧ Go.Maps.IsMap D ∧ n ≤ 1000000 ∧ (∀ k,∀ x ∈ m k,x < 1000000) ∧
    ∀ k : Nat,k < n → (D.atKey (.int .i64 k) .nil = .nil ∧ m k = []) ∨ D.atKey (.int .i64 k) .nil = .slice (lits .i64 (ofN (m k))) []
variable {w w' : World} {b base n c : Nat} {m : Nat → List Nat}
theorem lits_inj {xs ys : List Int} (h : (lits (H := Unit) .i64 xs) = lits .i64 ys) : xs = ys :=
  (List.map_inj_right (fun a b hab => by cases hab; rfl)).1 h
theorem MapG.made (w : World) (n : Nat) (hn : n ≤ 1000000) : MapG (w.alloc (.map #[] 0)) w.heap.size (w.heap.size + 1) n 0 (fun _ => []) :=
  ⟨.map [],0,Nat.le_refl _,World.ownsGroups_made _ _ _ _ _,Go.Maps.isMap_empty,hn,(fun _ _ h => by cases h),fun k _ => .inl ⟨by simp [DataW.atKey],rfl⟩⟩
theorem MapG.mono {c2 : Nat} (h : MapG w b base n c m) (hc : c ≤ c2) : MapG w b base n c2 m := by
  obtain ⟨D,c',h0,h1⟩ := h
  exact ⟨D,c',Nat.le_trans h0 hc,h1⟩
theorem MapG.congr {m' : Nat → List Nat} (h : MapG w b base n c m) (e : ∀ k,m k = m' k) : MapG w b base n c m' := by
  have : m = m' := funext e
  rw [← this]
  exact h
theorem MapG.below (h : MapG w b base n c m) : b < base := by
  obtain ⟨D,c',_,⟨_,_,_,_,_,_,h,_⟩,_⟩ := h
  exact h
theorem MapG.lt (h : MapG w b base n c m) : b < w.heap.size := by
  obtain ⟨D,c',_,⟨_,_,h,_⟩,_⟩ := h
  exact (Array.getElem?_eq_some_iff.1 h).1
theorem MapG.kept {row : Option Nat} (h : MapG w b base n c m) (hg : w.grownBy w' row) (hb : some b ≠ row) (hrow : ∀ (v : Value) (zs : List Int),w.ownsInts base 3 .i64 v zs → v.ownBlock = none ∨ v.ownBlock ≠ row) : MapG w' b base n c m := by
  obtain ⟨D,c',h0,h1,h2⟩ := h
  refine ⟨D,c',h0,h1.kept hg hb fun es clock hbk x hx => ?_,h2⟩
  obtain ⟨es',clock',hb',F,_⟩ := h1
  obtain ⟨rfl,rfl⟩ : es' = es ∧ clock' = clock := by rw [hb'] at hbk; simpa using hbk
  obtain ⟨y,hy⟩ := F.reads x hx
  obtain ⟨z,hz,_⟩ := WideElems.rd_val hy
  obtain ⟨zs,hoi,_⟩ := rowElem_inv hz
  exact hrow _ _ hoi
theorem MapG.alloc (h : MapG w b base n c m) (o : Obj) : MapG (w.alloc o) b base n c m := h.kept (World.grownBy_alloc w o .none) (by simp) fun v _ _ => by
  cases v.ownBlock with
  | none => exact .inl rfl
  | some j => exact .inr (by simp)
theorem MapG.beside {B2 s2 n2 : Nat} {e2 : TypeId} {v2 : Value} {x2 : List Value} (h : MapG w b base n c m) (ho : w.ownsRow B2 e2 s2 v2 n2 x2) (he : 3 ≠ e2) (hg : w.grownBy w' v2.ownBlock) (hb : ∀ k,v2.ownBlock = some k → base ≤ k) : MapG w' b base n c m :=
  h.kept hg (fun e => by have := hb _ e.symm; have := h.below; omega) fun v zs hv => by
    cases e1 : v.ownBlock with
    | none => exact .inl rfl
    | some j => exact .inr fun e2 => rows_apart hv.1 ho he e1 e2.symm
theorem MapG.at (h : MapG w b base n c m) {k : Nat} (hk : k < n) (hc : c ≤ 100000) : ∃ v,(Instr.lookup 89 (.map (some b)) (.int .i64 k) false).run Tryz.prog w = .ok v w ∧ OwnP w base v (ofN (m k)) ∧ (m k).length ≤ c ∧
    ∀ (w1 : World) (v' : Value) (x : Nat),x < 1000000 → w.grownBy w1 v.ownBlock → OwnP w1 base v' (ofN (m k ++ [x])) → (v'.ownBlock = v.ownBlock ∨ ∃ g,v'.ownBlock = some g ∧ w.heap.size ≤ g) →
      ∃ w2,(Instr.mapUpdate 89 (.map (some b)) (.int .i64 k) v').run Tryz.prog w1 = .ok () w2 ∧ MapG w2 b base n (c + 1) (fun r => if r = k then m k ++ [x] else m r) ∧ w1.grownBy w2 (some b) := by
  obtain ⟨D,c',h0,h1,h2,h3,h5,h4⟩ := h
  obtain ⟨v,zs,hrun,hat,hoi,hzl,hback⟩ := h1.at keyInt Tryz.underlying89 (zeroSI w) (by unfold maxLen; omega) (Maps.keyOf_int_mk Tryz.underlying3 (wfN (k := k) (by omega)))
  have hz : zs = ofN (m k) := by
    rcases h4 k hk with ⟨e1,e2⟩ | e1
    · rw [e1] at hat
      rcases hoi.datum (H := Unit) with ⟨_,h⟩ | h
      · rw [h,e2]; rfl
      · rw [h] at hat; cases hat
    · rw [e1] at hat
      rcases hoi.datum (H := Unit) with ⟨h,_⟩ | h
      · rw [h] at hat; cases hat
      · rw [h] at hat
        simp only [DataW.slice.injEq,and_true] at hat
        exact (lits_inj hat).symm
  subst hz
  refine ⟨v,hrun,hoi.1,by rw [ofN_len] at hzl; omega,fun w1 v' x hx hg hown' hloc => ?_⟩
  have hwf : ∀ z ∈ ofN (m k ++ [x]),(Lit.int .i64 z).wf = true := fun z hz => by
    unfold ofN at hz
    obtain ⟨y,hy,rfl⟩ := List.mem_map.1 hz
    refine wfN ?_
    rcases List.mem_append.1 hy with hy | hy
    · have := h5 k y hy; omega
    · simp at hy; omega
  have hoi' : w1.ownsInts base 3 .i64 v' (ofN (m k ++ [x])) := ⟨hown',hwf⟩
  obtain ⟨w2,hrun2,r1,r2⟩ := hback w1 v' _ hg hoi' (by rw [ofN_len,List.length_append]; rw [ofN_len] at hzl; simp; omega) hloc
  have hdat : rowDatum (H := Unit) .i64 v' (ofN (m k ++ [x])) = .slice (lits .i64 (ofN (m k ++ [x]))) [] := hoi'.datum_pos (by simp [ofN])
  rw [hdat] at r1
  refine ⟨w2,hrun2,⟨_,c' + 1,by omega,r1,h2.put _ _,h3,fun j u hu => ?_,fun j hj => ?_⟩,r2⟩
  · have hu' : u ∈ (if j = k then m k ++ [x] else m j) := hu
    by_cases e : j = k
    · rw [if_pos e] at hu'
      rcases List.mem_append.1 hu' with h | h
      · exact h5 k u h
      · simp at h; omega
    · rw [if_neg e] at hu'; exact h5 j u hu'
  · by_cases e : j = k
    · subst e
      right
      rw [Go.Maps.atKey_put_same h2 (by trivial)]
      simp
    · rw [Go.Maps.atKey_put_other (by simp; omega)]
      simp only [if_neg e]
      exact h4 j hj

/-! ### rows of rows -/
structure GU (B : Nat) (G : List (List Nat)) (ov : Value) (vs : List Value) (wr : World) : Prop where
  own : wr.ownsRow B 35 1 ov G.length vs
  inner : ∀ r,r < G.length → OwnP wr B (vs.getD r undef) (ofN (G.getD r []))
section
variable {wr w8 : World} {B : Nat} {ov lv : Value} {G : List (List Nat)} {vs : List Value} {g : List Nat}
theorem GU.nil (B : Nat) (wr : World) : GU B [] (.slice none 0 0) [] wr := ⟨World.ownsRow_nil _ _ _ _,fun r hr => by simp at hr⟩
theorem GU.call (h : GU B G ov vs wr) (hb : Below wr.heap.size wr w') : GU B G ov vs w' := ⟨owns_below h.own hb (Nat.le_refl _),fun r hr => (h.inner r hr).below hb⟩
theorem GU.mono {C : Nat} (h : GU B G ov vs wr) (hC : C ≤ B) : GU C G ov vs wr := ⟨row_mono h.own hC,fun r hr => OwnP.mono (h.inner r hr) hC⟩
theorem GU.alloc (h : GU B G ov vs wr) (o : Obj) : GU B G ov vs (wr.alloc o) := h.call (below_alloc wr o)
theorem GU.push {g8 c8 : Nat} {o : Obj} (h : GU B G ov vs wr) (hl : OwnP wr B lv (ofN g)) (hown : w8.ownsRow B 35 1 (.slice (some ⟨g8,0,none⟩) (G.length + 1) c8) (G.length + 1) (vs ++ [lv])) (hg : (wr.alloc o).grownBy w8 ov.ownBlock) :
    GU B (G ++ [g]) (.slice (some ⟨g8,0,none⟩) (G.length + 1) c8) (vs ++ [lv]) w8 := by
  have h' := h.alloc o
  have hvl : vs.length = G.length := by have := h.own.1; omega
  have kept : ∀ (v : Value) (xs : List Int),OwnP (wr.alloc o) B v xs → OwnP w8 B v xs := fun v xs hv => World.ownsRow.kept hv hg (by
    cases e1 : v.ownBlock with
    | none => exact .inl rfl
    | some j => exact .inr fun e2 => rows_apart hv h'.own (by decide) e1 e2.symm)
  refine ⟨by rw [List.length_append]; exact hown,fun r hr => ?_⟩
  rw [List.length_append,List.length_singleton] at hr
  by_cases e : r = G.length
  · subst e
    have e1 : (vs ++ [lv]).getD G.length undef = lv := by rw [← hvl]; simp
    have e2 : (G ++ [g]).getD G.length [] = g := by simp
    rw [e1,e2]
    exact kept _ _ (hl.alloc o)
  · have e1 : (vs ++ [lv]).getD r undef = vs.getD r undef := by
      simp only [List.getD_eq_getElem?_getD]
      rw [List.getElem?_append_left (by omega)]
    have e2 : (G ++ [g]).getD r [] = G.getD r [] := by
      simp only [List.getD_eq_getElem?_getD]
      rw [List.getElem?_append_left (by omega)]
    rw [e1,e2]
    exact kept _ _ (h'.inner r (by omega))
end
def GsPost (w : World) (G : List (List Nat)) (e : Ending) (w' : World) : Prop := ∃ a c vs,e = .returned (.slice a G.length c) ∧ GU w.heap.size G (.slice a G.length c) vs w' ∧ Below w.heap.size w w'
end Go.Proofs.YtaoamkbcegadcaaGreatDoor
/- Layer 16: fuse.Groups. -/
namespace Go.Proofs.YtaoamkbcegadcaaGreatDoor
open Go.RowKit Go.Bx Go.Od Go.Hp Go.Shelf
set_option linter.unusedVariables false

def ofJ (ld : Nat → Option Nat) (all : List Nat) (j : Nat) (l : Nat) : List Nat := (all.take j).filter fun k => decide (ld k = some l)
def gsJ (ld : Nat → Option Nat) (all : List Nat) (j : Nat) : List (List Nat) := ((all.take j).map (ofJ ld all all.length)).filter fun g => decide (0 < g.length)
def gsF (ld : Nat → Option Nat) (all : List Nat) : List (List Nat) := (all.map fun l => all.filter fun k => decide (ld k = some l)).filter fun g => decide (0 < g.length)
theorem gsJ_end (ld : Nat → Option Nat) (all : List Nat) : gsJ ld all all.length = gsF ld all := by
  unfold gsJ gsF
  congr 1
  rw [List.take_length]
  refine List.map_congr_left fun l _ => ?_
  unfold ofJ
  rw [List.take_length]
theorem gsJ_len (ld : Nat → Option Nat) (all : List Nat) (j : Nat) : (gsJ ld all j).length ≤ all.length := by
  unfold gsJ
  refine Nat.le_trans (List.length_filter_le _ _) ?_
  simp
  omega
theorem take_next {l : List Nat} {j x : Nat} (h : l[j]? = some x) : l.take (j + 1) = l.take j ++ [x] := by
  obtain ⟨hj,hx⟩ := List.getElem?_eq_some_iff.1 h
  rw [List.take_succ_eq_append_getElem hj,hx]
theorem ofJ_some {ld : Nat → Option Nat} {all : List Nat} {j k l : Nat} (hj : all[j]? = some k) (hl : ld k = some l) (r : Nat) : (if r = l then ofJ ld all j l ++ [k] else ofJ ld all j r) = ofJ ld all (j + 1) r := by
  unfold ofJ
  rw [take_next hj,List.filter_append]
  by_cases e : r = l
  · subst e
    rw [if_pos rfl,List.filter_cons_of_pos (by simp [hl])]
    rfl
  · rw [if_neg e,List.filter_cons_of_neg (by simp [hl]; omega)]
    simp
theorem ofJ_none {ld : Nat → Option Nat} {all : List Nat} {j k : Nat} (hj : all[j]? = some k) (hl : ld k = none) (r : Nat) : ofJ ld all j r = ofJ ld all (j + 1) r := by
  unfold ofJ
  rw [take_next hj,List.filter_append,List.filter_cons_of_neg (by simp [hl])]
  simp
theorem gsJ_some {ld : Nat → Option Nat} {all : List Nat} {j k : Nat} (hj : all[j]? = some k) (h : 0 < (ofJ ld all all.length k).length) : gsJ ld all (j + 1) = gsJ ld all j ++ [ofJ ld all all.length k] := by
  unfold gsJ
  rw [take_next hj,List.map_append,List.filter_append]
  simp [h]
theorem gsJ_none {ld : Nat → Option Nat} {all : List Nat} {j k : Nat} (hj : all[j]? = some k) (h : (ofJ ld all all.length k).length = 0) : gsJ ld all (j + 1) = gsJ ld all j := by
  unfold gsJ
  rw [take_next hj,List.map_append,List.filter_append]
  simp [h]

def G1 (w3 : World) (bm n : Nat) (ld : Nat → Option Nat) (all : List Nat) (j : Nat) (wr : World) : Prop :=
  Below w3.heap.size w3 wr ∧ MapI wr bm n 4000 ld ∧ MapG wr w3.heap.size (w3.heap.size + 1) n j (ofJ ld all j) ∧ bm < w3.heap.size
section
variable {w3 wr w8 : World} {bm n j k l : Nat} {ld : Nat → Option Nat} {all : List Nat}
theorem G1.skip (h : G1 w3 bm n ld all j wr) (hj : all[j]? = some k) (hl : ld k = none) : G1 w3 bm n ld all (j + 1) wr :=
  ⟨h.1,h.2.1,(h.2.2.1.mono (by omega)).congr (ofJ_none hj hl),h.2.2.2⟩
theorem G1.put (h : G1 w3 bm n ld all j wr) (hj : all[j]? = some k) (hl : ld k = some l) (hk : k < 1000000) (hjl : j ≤ 1000) :
    ∃ v,(Instr.lookup 89 (.map (some w3.heap.size)) (.int .i64 l) false).run Tryz.prog wr = .ok v wr ∧ OwnP wr (w3.heap.size + 1) v (ofN (ofJ ld all j l)) ∧ (ofJ ld all j l).length ≤ j ∧
      ∀ (o : Obj) (w8 : World) (g8 c8 : Nat),(wr.alloc o).grownBy w8 v.ownBlock → w8.ownsRow (w3.heap.size + 1) 3 1 (.slice (some ⟨g8,0,none⟩) ((ofJ ld all j l).length + 1) c8) ((ofJ ld all j l).length + 1) ((ofN (ofJ ld all j l)).map (Value.int .i64) ++ [.int .i64 k]) →
        (v.ownBlock = some g8 ∨ g8 = wr.heap.size + 1) → ∃ w9,(Instr.mapUpdate 89 (.map (some w3.heap.size)) (.int .i64 l) (.slice (some ⟨g8,0,none⟩) ((ofJ ld all j l).length + 1) c8)).run Tryz.prog w8 = .ok () w9 ∧ G1 w3 bm n ld all (j + 1) w9 := by
  obtain ⟨h1,h2,h3,h4⟩ := h
  obtain ⟨v,hrun,hown,hlen,hback⟩ := h3.at (h2.bound hl) (by omega)
  refine ⟨v,hrun,hown,hlen,fun o w8 g8 c8 hg hown8 hat => ?_⟩
  have hg' : wr.grownBy w8 v.ownBlock := (World.grownBy_alloc _ _ _).trans hg
  have hge := row_ge hown
  obtain ⟨w9,hrun9,hm9,hg9⟩ := hback w8 _ k hk hg' (by unfold OwnP; rw [ofN_app,List.map_append,List.length_append,ofN_len]; exact hown8) (by
    rcases hat with e | e
    · exact .inl e.symm
    · exact .inr ⟨g8,rfl,by omega⟩)
  refine ⟨w9,hrun9,(h1.grown hg' h1.size fun i hi => by have := (hge _ hi).1; omega).grown hg9 (Nat.le_trans h1.size hg'.size) (fun i hi => by cases hi; omega),(h2.kept hg' fun e => ?_).kept hg9 (fun e => by cases e; omega),hm9.congr (ofJ_some hj hl),h4⟩
  have := (hge _ e.symm).1
  omega
end
def G2 (w3 : World) (n : Nat) (ld : Nat → Option Nat) (all : List Nat) (j : Nat) (ov : Value) (wr : World) : Prop :=
  ∃ vs,Below w3.heap.size w3 wr ∧ MapG wr w3.heap.size (w3.heap.size + 1) n all.length (ofJ ld all all.length) ∧ GU (w3.heap.size + 1) (gsJ ld all j) ov vs wr
section
variable {w3 wr w8 : World} {bm n j k l : Nat} {ld : Nat → Option Nat} {all : List Nat} {ov : Value}
theorem G2.start (h : G1 w3 bm n ld all all.length wr) : G2 w3 n ld all 0 (.slice none 0 0) wr := ⟨[],h.1,h.2.2.1,GU.nil _ _⟩
theorem G2.isSl (h : G2 w3 n ld all j ov wr) : ∃ a c,ov = .slice a (gsJ ld all j).length c := by
  obtain ⟨vs,_,_,h3⟩ := h
  exact row_sl h3.own
theorem G2.skip (h : G2 w3 n ld all j ov wr) (hj : all[j]? = some k) (hl : (ofJ ld all all.length k).length = 0) : G2 w3 n ld all (j + 1) ov wr := by
  obtain ⟨vs,h1,h2,h3⟩ := h
  exact ⟨vs,h1,h2,by rw [gsJ_none hj hl]; exact h3⟩
theorem G2.at (h : G2 w3 n ld all j ov wr) (hj : all[j]? = some k) (hk : k < n) (hal : all.length ≤ 1000) :
    ∃ a c,(Instr.lookup 89 (.map (some w3.heap.size)) (.int .i64 k) false).run Tryz.prog wr = .ok (.slice a (ofJ ld all all.length k).length c) wr ∧ w3.heap.size + 1 ≤ wr.heap.size ∧
      (0 < (ofJ ld all all.length k).length → ∃ vs,wr.ownsRow (w3.heap.size + 1) 35 1 ov (gsJ ld all j).length vs ∧ ∀ (o : Obj) (w8 : World) (g8 c8 : Nat),(wr.alloc o).grownBy w8 ov.ownBlock →
        w8.ownsRow (w3.heap.size + 1) 35 1 (.slice (some ⟨g8,0,none⟩) ((gsJ ld all j).length + 1) c8) ((gsJ ld all j).length + 1) (vs ++ [.slice a (ofJ ld all all.length k).length c]) → G2 w3 n ld all (j + 1) (.slice (some ⟨g8,0,none⟩) ((gsJ ld all j).length + 1) c8) w8) := by
  obtain ⟨vs,h1,h2,h3⟩ := h
  obtain ⟨v,hrun,hown,hlen,_⟩ := h2.at hk (by omega)
  obtain ⟨a,c,rfl⟩ := own_sl hown
  refine ⟨a,c,hrun,h2.lt,fun hpos => ⟨vs,h3.own,fun o w8 g8 c8 hg hown8 => ⟨vs ++ [.slice a (ofJ ld all all.length k).length c],?_,?_,?_⟩⟩⟩
  · exact h1.grown ((World.grownBy_alloc _ _ _).trans hg) h1.size fun i hi => by have := (World.ownsRow.lt h3.own i hi).1; omega
  · exact (h2.alloc o).beside (World.ownsRow.alloc h3.own o) (by decide) hg fun i hi => (World.ownsRow.lt h3.own i hi).1
  · rw [gsJ_some hj hpos]
    exact h3.push hown hown8 hg
end
noncomputable def ldM (nds : List Nd) (out : Int) (on : Bool) : Nat → Option Nat := (ord (insOf nds)).reverse.foldl (ldStep (ned (insOf nds) out) (users (insOf nds)) (fun k => (nds.getD k Nd.none).op) out on) fun _ => none
set_option maxRecDepth 4000 in
set_option maxHeartbeats 3200000 in
theorem groups_c (B : Nat) (nv : Value) (nds : List Nd) (out : Int) (on : Bool) (w : World) (hm : nds.length ≤ 900) (hl : ∀ i,i < nds.length → (nds.getD i Nd.none).ins.length ≤ 1000) (hg : Gr B w nv nds) (hB : B ≤ w.heap.size) (hne : 0 < (ord (insOf nds)).length) :
    Calls Tryz.prog 25 #[.agg #[nv,.int .i64 out],.bool on] w (GsPost w (gsF (ldM nds out on) (ord (insOf nds)))) := by
  obtain ⟨ga,gc,rfl⟩ := hg.isSl
  have hgl := hg.len_le
  have hmm := @run_makeMap Tryz.prog
  obtain ⟨i3,hi3,hz0,hz1,hz2⟩ := info_parts infoI
  obtain ⟨iS,hiS,sz0,sz1,sz2⟩ := info_parts infoS
  have hal := ord_len (insOf nds)
  rw [insOf_len] at hal
  have hab : ∀ k ∈ ord (insOf nds),k < nds.length := fun k hk => by have := (ord_fine (insOf nds)).bound k hk; rwa [insOf_len] at this
  obtain ⟨ld,hld⟩ : ∃ ld,ld = ldM nds out on := ⟨_,rfl⟩
  have HLD : Hid (ld = ldM nds out on) := hld
  rw [← hld]
  clear hld
  have HG : Hid (Gr B w (.slice ga nds.length gc) nds ∧ (∀ i,i < nds.length → (nds.getD i Nd.none).ins.length ≤ 1000)) := ⟨hg,hl⟩
  obtain ⟨all,hall⟩ : ∃ all,all = ord (insOf nds) := ⟨_,rfl⟩
  have HALL : Hid (all = ord (insOf nds)) := hall
  rw [← hall] at hne hal hab ⊢
  have HAB : Hid (∀ k ∈ all,k < nds.length) := hab
  clear hg hl hall hab
  go_enter Tryz.func25,Tryz.ntmps25
  go_wp2_with fail
  have X := Box.new w [.slice ga nds.length gc,.int .i64 out] 24
  have hb1 := below_alloc w (.cells #[.slice ga nds.length gc,.int .i64 out] 24)
  obtain ⟨W1,hW1⟩ : ∃ W,W = w.alloc (.cells #[.slice ga nds.length gc,.int .i64 out] 24) := ⟨_,rfl⟩
  rw [← hW1] at X hb1 ⊢
  clear hW1
  refine (all_c B _ nds out W1 (by omega) HG.out.2 (HG.out.1.below hb1 hB) (Nat.le_trans hB hb1.size)).mono ?_; rintro e w2 ⟨aa,ac,rfl,hoa,hb2⟩
  have X2 := X.call hb2
  have g0 := X2.cell 0 rfl
  have g1 := X2.cell 1 rfl
  rw [← HALL.out] at hoa ⊢
  have hb12 : Below w.heap.size w w2 := hb1.trans (hb2.mono hb1.size)
  clear X
  go_wp2_with fail
  refine ((callsIn_wide (n := 6)).1 (leaders_in Fence.wide 6 (fun _ => trivial) rfl (by omega) (fun h => callsIn_wide.2 h) B _ _ _ nds out on all w2 (by omega) HG.out.2 (HG.out.1.below hb12 hB) (Nat.le_trans hB hb12.size) hoa hne (by omega) HAB.out)).mono ?_; rintro e w3 ⟨bm,hbm,rfl,hmap,hb3⟩
  obtain ⟨ab,rfl,habl,hacc⟩ : ∃ ab,aa = some ⟨ab,0,none⟩ ∧ ab < w2.heap.size ∧ ∀ j k,all[j]? = some k → w2.cell? ⟨ab,j,none⟩ = some (.int .i64 (k : Nat)) := by
    rcases hoa.form with ⟨h,h'⟩ | ⟨g,cap,h1,_,h2,h3,h4,_,_,h5⟩
    · have : all.length = 0 := by rw [← ofN_len,h']; rfl
      omega
    · rw [ofN_len] at h1
      cases h1
      refine ⟨g,rfl,h2,fun j k hj => ?_⟩
      obtain ⟨hj',rfl⟩ := List.getElem?_eq_some_iff.1 hj
      rw [h5 j (by rw [ofN_len]; exact hj')]
      simp [ofN,hj']
  have hac2 : all.length ≤ ac ∧ ac ≤ maxLen := by
    rcases hoa.form with ⟨h,h'⟩ | ⟨g,cap,h1,_,h2,h3,h4,_,_,h5⟩
    · cases h
    · rw [ofN_len] at h1 h3
      cases h1
      exact ⟨h3,h4⟩
  have HAC : Hid (∀ j k,all[j]? = some k → w3.cell? ⟨ab,j,none⟩ = some (.int .i64 (k : Nat))) := fun j k h => (hb3.cell (p := ⟨ab,j,none⟩) habl).trans (hacc j k h)
  have habs : ab < w3.heap.size := Nat.lt_of_lt_of_le habl hb3.size
  have hmap' : MapI w3 bm nds.length 4000 ld := by
    rw [HLD.out]
    unfold ldM
    rw [← HALL.out]
    exact hmap
  have HB3 : Hid (Below w.heap.size w w3) := hb12.trans (hb3.mono hb12.size)
  have HG1 : Hid (G1 w3 bm nds.length ld all 0 (w3.alloc (.map #[] 0))) := ⟨below_alloc _ _,hmap'.alloc _,MapG.made w3 nds.length (by omega),hmap'.lt⟩
  have hbw : bm < w3.heap.size := hmap'.lt
  obtain ⟨hac1,hacm⟩ := hac2
  unfold maxLen at hacm
  clear X2 g0 g1 hmap hmap' hb1 hb2 hb3 hb12 hoa hacc habl hbm
  go_wp2_with fail
  go_loopw [25] (fun jv wr => ∃ j : Nat,j ≤ all.length ∧ jv = .int .i64 j ∧ G1 w3 bm nds.length ld all j wr) (fun jv _ => all.length - (intOf jv).toNat)
  case atStart => exact ⟨0,Nat.zero_le _,rfl,HG1.out⟩
  case round =>
    obtain ⟨j,hj,rfl,hr⟩ := hrel
    clear HG1
    by_cases hjl : j < all.length
    · obtain ⟨k,hk⟩ : ∃ k,all[j]? = some k := ⟨all[j],List.getElem?_eq_getElem hjl⟩
      have hkn := HAB.out k (List.mem_of_getElem? hk)
      have c0 := (hr.1.cell (p := ⟨ab,j,none⟩) habs).trans (HAC.out j k hk)
      have hlook := hr.2.1.look2 hkn
      have hj0 : (0 : Int) ≤ (j : Int) := by omega
      have hj1 : (j : Int) < (all.length : Int) := by omega
      cases hlk : ld k with
      | none =>
        rw [hlk] at hlook
        have HA : Hid (G1 w3 bm nds.length ld all (j + 1) wr) := hr.skip hk hlk
        clear hr hlk hk
        go_wp2_with fail
        go_roundw
        case rel => exact ⟨j + 1,by omega,by go_num,HA.out⟩
        case measure => simp [intOf]; omega
      | some l =>
        rw [hlk] at hlook
        have hln := hr.2.1.bound hlk
        have hsz := hr.2.2.1.lt
        obtain ⟨v,hrun,hown,hlen,hback⟩ := hr.put hk hlk (by omega) (by omega)
        obtain ⟨L,hL⟩ : ∃ L,L = ofJ ld all j l := ⟨_,rfl⟩
        rw [← hL] at hown hlen hback
        obtain ⟨va,vc,rfl⟩ := own_sl hown
        have HO : Hid (OwnP wr (w3.heap.size + 1) (.slice va L.length vc) (ofN L)) := hown
        have HBK : Hid _ := hback
        have HM : Hid (L.length + 1 ≤ maxLen ∧ (L.length + 1) * 8 ≤ 140737488355328) := by constructor <;> (try unfold maxLen) <;> omega
        clear hr hlk hk hL hown hback
        go_wp2_with (at_builtin; refine wpList_append_lies _ rfl _ _ 35 rfl (w3.heap.size + 1) 3 i3 (.int .i64 0) 1 8 Tryz.underlying35 hi3 hz0 hz1 hz2 rfl (by decide) (.slice va L.length vc) L.length ((ofN L).map (Value.int .i64)) rfl (OwnP.row (ofN_len L) (HO.out.alloc (.cells #[.int .i64 k] 3))) _ 1 1 [.int .i64 k] rfl rfl (news_one (by simp)) (by simp [Value.oneCell']) (by decide) HM.out.1 HM.out.2 (by first | omega | (simp; omega)) (wr.heap.size + 1) (by simp) ?_; intro g8 c8 w8 hown8 hgrow8 hat8 hlt8; obtain ⟨w9,hr9,hG9⟩ := HBK.out _ w8 g8 c8 hgrow8 hown8 hat8; have HA : Hid (G1 w3 bm nds.length ld all (j + 1) w9) := hG9; clear hown8 hgrow8 hat8 hlt8 hG9 hrun)
        go_roundw
        case rel => exact ⟨j + 1,by omega,by go_num,HA.out⟩
        case measure => simp [intOf]; omega
    · have ej : j = all.length := by omega
      subst ej
      have H2 : Hid (G2 w3 nds.length ld all 0 (.slice none 0 0) wr) := G2.start hr
      clear hr
      go_wp2_with fail
      go_loopw [12,47] (fun ov jv wr => ∃ j : Nat,j ≤ all.length ∧ jv = .int .i64 j ∧ G2 w3 nds.length ld all j ov wr) (fun _ jv _ => all.length - (intOf jv).toNat)
      case atStart => exact ⟨0,Nat.zero_le _,rfl,H2.out⟩
      case round =>
        obtain ⟨j,hj,rfl,hr⟩ := hrel
        clear H2
        have hgs := gsJ_len ld all j
        obtain ⟨oa,oc,hov⟩ := hr.isSl
        subst hov
        by_cases hjl : j < all.length
        · obtain ⟨k,hk⟩ : ∃ k,all[j]? = some k := ⟨all[j],List.getElem?_eq_getElem hjl⟩
          have hkn := HAB.out k (List.mem_of_getElem? hk)
          have c0 : wr.cell? ⟨ab,j,none⟩ = some (.int .i64 (k : Nat)) := by
            obtain ⟨vs,h1,_⟩ := hr
            exact (h1.cell (p := ⟨ab,j,none⟩) habs).trans (HAC.out j k hk)
          obtain ⟨va,vc,hrun,hsz,hpush⟩ := hr.at hk hkn (by omega)
          have hj0 : (0 : Int) ≤ (j : Int) := by omega
          have hj1 : (j : Int) < (all.length : Int) := by omega
          by_cases hpos : 0 < (ofJ ld all all.length k).length
          · obtain ⟨vs,hown,hpush⟩ := hpush hpos
            obtain ⟨L,hL⟩ : ∃ L,L = (ofJ ld all all.length k).length := ⟨_,rfl⟩
            obtain ⟨n8,hn8⟩ : ∃ n,n = (gsJ ld all j).length := ⟨_,rfl⟩
            rw [← hL] at hrun hpush hpos
            rw [← hn8] at hown hpush hgs
            have HBK : Hid _ := hpush
            have HO : Hid (wr.ownsRow (w3.heap.size + 1) 35 1 (.slice oa n8 oc) n8 vs) := hown
            have HM : Hid (n8 + 1 ≤ maxLen ∧ (n8 + 1) * 24 ≤ 140737488355328) := by constructor <;> (try unfold maxLen) <;> omega
            have hd : decide ((0 : Int) < (L : Int)) = true := decide_eq_true (by omega)
            rw [← hn8]
            clear hr hk hL hown hpush hn8
            go_wp2_with (at_builtin; refine wpList_append_lies _ rfl _ _ 61 rfl (w3.heap.size + 1) 35 iS (.slice none 0 0) 1 24 Tryz.underlying61 hiS sz0 sz1 sz2 rfl (by decide) (.slice oa n8 oc) n8 vs rfl (HO.out.alloc (.cells #[.slice va L vc] 35)) _ 1 1 [.slice va L vc] rfl rfl (news_one (by simp)) (by simp [Value.oneCell']) (by decide) HM.out.1 HM.out.2 (by first | omega | (simp; omega)) _ rfl ?_; intro g8 c8 w8 hown8 hgrow8 hat8 hlt8; have HA : Hid (G2 w3 nds.length ld all (j + 1) (.slice (some ⟨g8,0,none⟩) (n8 + 1) c8) w8) := HBK.out _ w8 g8 c8 hgrow8 hown8; clear hown8 hgrow8 hat8 hlt8)
            go_roundw
            case rel => exact ⟨j + 1,by omega,by go_num,HA.out⟩
            case measure => simp [intOf]; omega
          · have h0 : (ofJ ld all all.length k).length = 0 := by omega
            rw [h0] at hrun
            have HA : Hid (G2 w3 nds.length ld all (j + 1) (.slice oa (gsJ ld all j).length oc) wr) := hr.skip hk h0
            clear hr hk hpush hpos h0
            go_wp2_with fail
            go_roundw
            case rel => exact ⟨j + 1,by omega,by go_num,HA.out⟩
            case measure => simp [intOf]; omega
        · have ej : j = all.length := by omega
          subst ej
          have HE : Hid (GsPost w (gsF ld all) (.returned (.slice oa (gsJ ld all all.length).length oc)) wr) := by
            obtain ⟨vs,h1,h2,h3⟩ := hr
            rw [gsJ_end] at h3 ⊢
            have := HB3.out.size
            exact ⟨oa,oc,vs,rfl,h3.mono (by omega),HB3.out.trans (h1.mono HB3.out.size)⟩
          clear hr
          go_wp2_with fail
          go_ret
          exact HE.out
end Go.Proofs.YtaoamkbcegadcaaGreatDoor
/- Layer 16: the document's joins, Leader. -/
namespace Go.Proofs.YtaoamkbcegadcaaGreatDoor
open Go.RowKit Go.Bx Go.Od Go.Hp
attribute [local go_sem ↓] Go.wp_at_zero Go.wp_at_succ
set_option linter.unusedVariables false

noncomputable def jO (nds : List Nd) (out : Int) (on : Bool) (k : Nat) : Option Nat :=
  if ned (insOf nds) out k && ldCond (ned (insOf nds) out) (users (insOf nds)) (fun k => (nds.getD k Nd.none).op) out on k then some (lastN ((users (insOf nds) k).filter (ned (insOf nds) out))) else none
def joZ (o : Option Nat) : Int := match o with | some u => (u : Int) | none => -1
end Go.Proofs.YtaoamkbcegadcaaGreatDoor
/- Layer 16: the document's Leader. -/
namespace Go.Proofs.YtaoamkbcegadcaaGreatDoor
open Go.RowKit Go.Bx Go.Od Go.Hp
attribute [local go_sem ↓] Go.wp_at_zero Go.wp_at_succ
set_option linter.unusedVariables false

def ldr (j : Nat → Option Nat) : Nat → Nat → Nat
  | 0,k => k
  | f + 1,k => match j k with | some u => ldr j f u | none => k
theorem ldr_none {j : Nat → Option Nat} {f k : Nat} (h : j k = none) : ldr j f k = k := by
  cases f with
  | zero => rfl
  | succ f => simp [ldr,h]
def Rk (j : Nat → Option Nat) (n : Nat) (rk : Nat → Nat) : Prop := (∀ k,rk k ≤ n) ∧ ∀ k u,k < n → j k = some u → u < n ∧ rk u < rk k
theorem ldr_more {j : Nat → Option Nat} {n : Nat} {rk : Nat → Nat} (h : Rk j n rk) : ∀ (f k : Nat),k < n → rk k ≤ f → ldr j (f + 1) k = ldr j f k
  | 0,k,hk,hf => by
    cases e : j k with
    | none => rw [ldr_none e,ldr_none e]
    | some u => have := (h.2 k u hk e).2; omega
  | f + 1,k,hk,hf => by
    cases e : j k with
    | none => rw [ldr_none e,ldr_none e]
    | some u =>
      have hu := h.2 k u hk e
      have := ldr_more h f u hu.1 (by omega)
      show (match j k with | some u => ldr j (f + 1) u | none => k) = (match j k with | some u => ldr j f u | none => k)
      rw [e]
      exact this
theorem ldr_step {j : Nat → Option Nat} {n : Nat} {rk : Nat → Nat} (h : Rk j n rk) {k u : Nat} (hk : k < n) (e : j k = some u) : ldr j n k = ldr j n u := by
  have hu := h.2 k u hk e
  have h1 : ldr j (n + 1) k = ldr j n k := ldr_more h n k hk (h.1 k)
  rw [← h1]
  simp [ldr,e]

end Go.Proofs.YtaoamkbcegadcaaGreatDoor
/- Layer 16: the document's Groups. -/
namespace Go.Proofs.YtaoamkbcegadcaaGreatDoor
open Go.RowKit Go.Bx Go.Od Go.Hp
attribute [local go_sem ↓] Go.wp_at_zero Go.wp_at_succ
set_option linter.unusedVariables false

def gsP (p : Nat → Nat → Bool) (all : List Nat) (i : Nat) : List (List Nat) := ((all.take i).map fun l => all.filter (p l)).filter fun g => decide (0 < g.length)
theorem gsP_len (p : Nat → Nat → Bool) (all : List Nat) (j : Nat) : (gsP p all j).length ≤ all.length := by
  unfold gsP
  refine Nat.le_trans (List.length_filter_le _ _) ?_
  simp
  omega
noncomputable def pR (nds : List Nd) (out : Int) (on : Bool) (l k : Nat) : Bool := ned (insOf nds) out k && ((ldr (jO nds out on) nds.length k : Int) == (l : Int))
section
variable {w3 wr w8 : World} {G : List (List Nat)} {ov lv : Value} {l : List Nat} {X : Nat}
end
end Go.Proofs.YtaoamkbcegadcaaGreatDoor
/- Layer 16: groups: plain laws. -/
namespace Go.Proofs.YtaoamkbcegadcaaGreatDoor
open Go.RowKit Go.Bx Go.Od Go.Hp
set_option linter.unusedVariables false

structure Good (nds : List Nd) (out : Int) : Prop where
  few : nds.length ≤ 100
  short : ∀ i,i < nds.length → (nds.getD i Nd.none).ins.length ≤ 1000
  pos : 0 < nds.length
  outs : 0 ≤ out ∧ out < nds.length
  full : ∀ i,i < nds.length → i ∈ ord (insOf nds)
theorem good_of {nds : List Nd} {out : Int} (h : rightB nds out = true) : Good nds out := by
  unfold rightB at h
  rw [Bool.and_eq_true] at h
  obtain ⟨h1,h2⟩ := few_of h.1 (by omega)
  have hc := eq_of_beq h.2
  unfold chkB at hc
  by_cases c1 : nds.length < 1 ∨ 256 < nds.length
  · rw [if_pos c1] at hc; omega
  · rw [if_neg c1] at hc
    by_cases c2 : badB nds nds.length ≠ 0
    · rw [if_pos c2] at hc; exact absurd hc c2
    · rw [if_neg c2] at hc
      by_cases c3 : out < 0 ∨ (nds.length : Int) ≤ out
      · rw [if_pos c3] at hc; omega
      · rw [if_neg c3] at hc
        by_cases c4 : (ord (insOf nds)).length < nds.length
        · rw [if_pos c4] at hc; omega
        · refine ⟨h1,h2,by omega,by omega,fun i hi => ?_⟩
          have h5 := ord_len (insOf nds)
          rw [insOf_len] at h5
          exact (ord_full (insOf nds)).1 (by rw [insOf_len]; omega) i (by rw [insOf_len]; exact hi)
theorem idx_take {l : List Nat} {m k : Nat} (h : k ∈ l.take m) : l.idxOf k < m := by
  have e : l = l.take m ++ l.drop m := (List.take_append_drop m l).symm
  have h1 : l.idxOf k = (l.take m).idxOf k := by
    have : (l.take m ++ l.drop m).idxOf k = (l.take m).idxOf k := by rw [List.idxOf_append,if_pos h]
    rwa [List.take_append_drop] at this
  rw [h1]
  have := List.idxOf_lt_length_of_mem h
  rw [List.length_take] at this
  omega
theorem idx_at {l : List Nat} {u : Nat} (h : u ∈ l) : l[l.idxOf u]? = some u := by
  have h1 := List.idxOf_lt_length_of_mem h
  rw [List.getElem?_eq_getElem h1,List.getElem_idxOf]
theorem us_mem {ins : List (List Int)} {k u : Nat} : u ∈ users ins k ↔ u < ins.length ∧ k ∈ inp ins u := by
  unfold users
  rw [List.mem_filter,List.mem_range]
  simp
section
variable {nds : List Nd} {out : Int} {on : Bool} {k u : Nat}
noncomputable def at_ (nds : List Nd) (k : Nat) : Nat := (ord (insOf nds)).idxOf k
theorem ord_lt (h : k ∈ ord (insOf nds)) : k < nds.length := by
  have := (ord_fine (insOf nds)).bound k h
  rwa [insOf_len] at this
theorem Good.at_lt (h : Good nds out) (hk : k < nds.length) : at_ nds k < nds.length := by
  have h1 := List.idxOf_lt_length_of_mem (h.full k hk)
  have h2 := ord_len (insOf nds)
  rw [insOf_len] at h2
  unfold at_
  omega
theorem Good.before (h : Good nds out) (hu : u < nds.length) (hk : k ∈ inp (insOf nds) u) : at_ nds k < at_ nds u :=
  idx_take ((ord_fine (insOf nds)).behind _ u (idx_at (h.full u hu)) k hk)
theorem jO_some (h : jO nds out on k = some u) : on = true ∧ ned (insOf nds) out k = true ∧ (u < nds.length ∧ k ∈ inp (insOf nds) u ∧ ned (insOf nds) out u = true) ∧ (k : Int) ≠ out ∧ byPt (nds.getD k Nd.none).op = true ∧ byPt (nds.getD u Nd.none).op = true ∧
    ∀ j,j < nds.length → k ∈ inp (insOf nds) j → ned (insOf nds) out j = true → j = u := by
  unfold jO ldCond at h
  split at h
  · rename_i hc
    have hu := Option.some.inj h
    rw [Bool.and_eq_true,Bool.and_eq_true,Bool.and_eq_true,Bool.and_eq_true,Bool.and_eq_true] at hc
    obtain ⟨c1,c2,c3,c4,c5,c6⟩ := hc
    rw [hu] at c6
    have hl : ((users (insOf nds) k).filter (ned (insOf nds) out)).length = 1 := by have := eq_of_beq c3; omega
    obtain ⟨x,hx⟩ := List.length_eq_one_iff.1 hl
    have hxu : x = u := by rw [← hu,hx]; rfl
    subst hxu
    have hm : ∀ j,j ∈ (users (insOf nds) k).filter (ned (insOf nds) out) ↔ j = x := fun j => by rw [hx]; simp
    have hmx := (hm x).2 rfl
    rw [List.mem_filter,us_mem,insOf_len] at hmx
    refine ⟨c2,c1,⟨hmx.1.1,hmx.1.2,hmx.2⟩,by simpa using c4,c5,c6,fun j hj hin hn => ?_⟩
    exact (hm j).1 (List.mem_filter.2 ⟨us_mem.2 ⟨by rw [insOf_len]; exact hj,hin⟩,hn⟩)
  · cases h
theorem Good.rk (h : Good nds out) (on : Bool) : Rk (jO nds out on) nds.length (fun k => nds.length - at_ nds k) := by
  refine ⟨fun k => Nat.sub_le _ _,fun k u hk e => ?_⟩
  obtain ⟨_,_,⟨h1,h2,_⟩,_⟩ := jO_some e
  have h3 := h.before h1 h2
  have h4 := h.at_lt h1
  refine ⟨h1,?_⟩
  show nds.length - at_ nds u < nds.length - at_ nds k
  omega
noncomputable def led (nds : List Nd) (out : Int) (on : Bool) (k : Nat) : Nat := ldr (jO nds out on) nds.length k
theorem led_none (e : jO nds out on k = none) : led nds out on k = k := ldr_none e
theorem Good.led_some (h : Good nds out) (hk : k < nds.length) (e : jO nds out on k = some u) : led nds out on k = led nds out on u := ldr_step (h.rk on) hk e
theorem Good.fold (h : Good nds out) (on : Bool) : ∀ (s pre : List Nat),ord (insOf nds) = pre ++ s → ∀ k,(s.reverse.foldl (ldStep (ned (insOf nds) out) (users (insOf nds)) (fun k => (nds.getD k Nd.none).op) out on) fun _ => none) k = if k ∈ s ∧ ned (insOf nds) out k = true then some (led nds out on k) else none
  | [],pre,_,k => by simp
  | x :: s,pre,e,k => by
    have ih := h.fold on s (pre ++ [x]) (by rw [e]; simp)
    rw [List.reverse_cons,List.foldl_append]
    obtain ⟨m,hm⟩ : ∃ m,m = (s.reverse.foldl (ldStep (ned (insOf nds) out) (users (insOf nds)) (fun k => (nds.getD k Nd.none).op) out on) fun _ => none) := ⟨_,rfl⟩
    rw [← hm] at ih ⊢
    simp only [List.foldl_cons,List.foldl_nil]
    have hnd := (ord_fine (insOf nds)).nodup
    rw [e] at hnd
    have hxs : x ∉ s := by
      have := (List.nodup_append.1 hnd).2.1
      exact (List.nodup_cons.1 this).1
    have hxp : x ∉ pre := fun hx => (List.nodup_append.1 hnd).2.2 x hx x (by simp) rfl
    have hxn : x < nds.length := ord_lt (by rw [e]; simp)
    unfold ldStep
    by_cases hS : ned (insOf nds) out x = true
    · rw [if_pos hS]
      cases hj : jO nds out on x with
      | none =>
        have hc : ¬ (ldCond (ned (insOf nds) out) (users (insOf nds)) (fun k => (nds.getD k Nd.none).op) out on x = true) := fun hc => by
          unfold jO at hj
          rw [hS,hc] at hj
          cases hj
        rw [if_neg hc]
        unfold setM
        by_cases hkx : k = x
        · subst hkx
          rw [if_pos rfl,if_pos ⟨by simp,hS⟩,led_none hj]
        · rw [if_neg hkx,ih k]
          simp [hkx]
      | some u =>
        have hc : ldCond (ned (insOf nds) out) (users (insOf nds)) (fun k => (nds.getD k Nd.none).op) out on x = true := by
          by_cases hc : ldCond (ned (insOf nds) out) (users (insOf nds)) (fun k => (nds.getD k Nd.none).op) out on x = true
          · exact hc
          · unfold jO at hj
            rw [if_neg (by rw [Bool.and_eq_true]; exact fun hh => hc hh.2)] at hj
            cases hj
        have hlu : lastN ((users (insOf nds) x).filter (ned (insOf nds) out)) = u := by
          unfold jO at hj
          rw [hS,hc] at hj
          exact Option.some.inj hj
        rw [if_pos hc,hlu]
        obtain ⟨_,_,⟨h1,h2,h3⟩,_⟩ := jO_some hj
        have hux : u ≠ x := fun e2 => by subst e2; have := h.before h1 h2; omega
        have hus : u ∈ s := by
          have hu := h.full u h1
          rw [e] at hu
          rcases List.mem_append.1 hu with hp | hp
          · exfalso
            obtain ⟨i,hi,hie⟩ := List.getElem_of_mem hp
            have h4 : (ord (insOf nds))[i]? = some u := by rw [e,List.getElem?_append_left hi,List.getElem?_eq_getElem hi,hie]
            have h5 := (ord_fine (insOf nds)).behind i u h4 x h2
            rw [e,List.take_append_of_le_length (by omega)] at h5
            exact hxp (List.mem_of_mem_take h5)
          · rcases List.mem_cons.1 hp with hp | hp
            · exact absurd hp hux
            · exact hp
        unfold setM
        by_cases hkx : k = x
        · subst hkx
          show (if k = k then some ((if u = k then some k else m u).getD 0) else (if k = k then some k else m k)) = _
          rw [if_neg hux,ih u,if_pos (show u ∈ s ∧ ned (insOf nds) out u = true from ⟨hus,h3⟩),h.led_some hxn hj,if_pos (Eq.refl k)]
          simp [hS]
        · rw [if_neg hkx,if_neg hkx,ih k]
          simp [hkx]
    · rw [if_neg hS,ih k]
      by_cases hkx : k = x
      · subst hkx
        rw [if_neg (fun h => hS h.2),if_neg (fun h => hS h.2)]
      · simp [hkx]
theorem Good.ldM (h : Good nds out) (on : Bool) (hk : k ∈ ord (insOf nds)) : ldM nds out on k = if ned (insOf nds) out k = true then some (led nds out on k) else none := by
  have := h.fold on (ord (insOf nds)) [] rfl k
  unfold Go.Proofs.YtaoamkbcegadcaaGreatDoor.ldM
  rw [this]
  simp [hk]
noncomputable def grp (nds : List Nd) (out : Int) (on : Bool) : List (List Nat) := gsP (pR nds out on) (ord (insOf nds)) (ord (insOf nds)).length
theorem pR_iff {l : Nat} : pR nds out on l k = true ↔ ned (insOf nds) out k = true ∧ led nds out on k = l := by
  unfold pR led
  rw [Bool.and_eq_true,beq_iff_eq]
  constructor
  · rintro ⟨h1,h2⟩; exact ⟨h1,by omega⟩
  · rintro ⟨h1,h2⟩; exact ⟨h1,by omega⟩
theorem Good.same (h : Good nds out) (on : Bool) : gsF (Go.Proofs.YtaoamkbcegadcaaGreatDoor.ldM nds out on) (ord (insOf nds)) = grp nds out on := by
  unfold gsF grp gsP
  rw [List.take_length]
  congr 1
  refine List.map_congr_left fun l _ => List.filter_congr fun k hk => ?_
  rw [h.ldM on hk]
  rw [Bool.eq_iff_iff,pR_iff]
  by_cases hS : ned (insOf nds) out k = true
  · rw [if_pos hS]; simp [hS]
  · rw [if_neg hS]; simp [hS]
theorem Good.ne (h : Good nds out) : 0 < (ord (insOf nds)).length := List.length_pos_of_mem (h.full 0 h.pos)
end
theorem fgroups_c (B : Nat) (nv : Value) (nds : List Nd) (out : Int) (on : Bool) (w : World) (h : Good nds out) (hg : Gr B w nv nds) (hB : B ≤ w.heap.size) :
    Calls Tryz.prog 25 #[.agg #[nv,.int .i64 out],.bool on] w (GsPost w (grp nds out on)) := by
  rw [← h.same on]
  exact groups_c B nv nds out on w (by have := h.few; omega) h.short hg hB h.ne
end Go.Proofs.YtaoamkbcegadcaaGreatDoor
/- Layer 16: groups: plain laws, more. -/
namespace Go.Proofs.YtaoamkbcegadcaaGreatDoor
open Go.RowKit Go.Bx Go.Od Go.Hp
set_option linter.unusedVariables false
section
variable {nds : List Nd} {out : Int} {on : Bool} {k u l : Nat}
theorem Good.ldr_up (h : Good nds out) (on : Bool) : ∀ (f k : Nat),k < nds.length → at_ nds k ≤ at_ nds (ldr (jO nds out on) f k) ∧ ldr (jO nds out on) f k < nds.length ∧ (ned (insOf nds) out k = true → ned (insOf nds) out (ldr (jO nds out on) f k) = true)
  | 0,k,hk => ⟨Nat.le_refl _,hk,fun h => h⟩
  | f + 1,k,hk => by
    cases e : jO nds out on k with
    | none => rw [ldr_none e]; exact ⟨Nat.le_refl _,hk,fun h => h⟩
    | some u =>
      have hs : ldr (jO nds out on) (f + 1) k = ldr (jO nds out on) f u := by simp [ldr,e]
      rw [hs]
      obtain ⟨_,_,⟨h1,h2,h3⟩,_⟩ := jO_some e
      have h4 := h.before h1 h2
      obtain ⟨i1,i2,i3⟩ := h.ldr_up on f u h1
      exact ⟨by omega,i2,fun _ => i3 h3⟩
theorem Good.led_up (h : Good nds out) (hk : k < nds.length) : at_ nds k ≤ at_ nds (led nds out on k) ∧ led nds out on k < nds.length ∧ (ned (insOf nds) out k = true → ned (insOf nds) out (led nds out on k) = true) := h.ldr_up on _ k hk
theorem Good.led_end (h : Good nds out) : ∀ (f k : Nat),k < nds.length → nds.length - at_ nds k ≤ f → jO nds out on (led nds out on k) = none
  | 0,k,hk,hf => by have := h.at_lt hk; omega
  | f + 1,k,hk,hf => by
    cases e : jO nds out on k with
    | none => rw [led_none e]; exact e
    | some u =>
      obtain ⟨_,_,⟨h1,h2,h3⟩,_⟩ := jO_some e
      have h4 := h.before h1 h2
      rw [h.led_some hk e]
      exact h.led_end f u h1 (by omega)
theorem Good.led_led (h : Good nds out) (hk : k < nds.length) : led nds out on (led nds out on k) = led nds out on k := led_none (h.led_end _ k hk (Nat.le_refl _))
theorem last_filter {p : Nat → Bool} {o : Nat} {all : List Nat} (hn : all.Nodup) (ho : o ∈ all) (hp : p o = true) (hmax : ∀ x ∈ all,p x = true → all.idxOf x ≤ all.idxOf o) : ∃ pre,all.filter p = pre ++ [o] := by
  obtain ⟨pre,post,e⟩ := List.append_of_mem ho
  refine ⟨pre.filter p,?_⟩
  have hpost : post.filter p = [] := by
    rw [List.filter_eq_nil_iff]
    intro x hx hpx
    have h1 := hmax x (by rw [e]; simp [hx]) hpx
    rw [e] at hn h1
    have hnd := List.nodup_append.1 hn
    have hxo : x ≠ o := fun e2 => by
      subst e2
      exact (List.nodup_cons.1 hnd.2.1).1 hx
    have hxp : x ∉ pre := fun h => hnd.2.2 x h x (by simp [hx]) rfl
    have hop : o ∉ pre := fun h => hnd.2.2 o h o (by simp) rfl
    rw [List.idxOf_append,if_neg hxp,List.idxOf_append,if_neg hop,List.idxOf_cons,List.idxOf_cons] at h1
    have hb : (o == x) = false := beq_eq_false_iff_ne.2 (Ne.symm hxo)
    rw [hb] at h1
    simp at h1
    omega
  rw [e,List.filter_append,List.filter_cons_of_pos hp,hpost]
theorem Good.last (h : Good nds out) (hk : k < nds.length) (hn : ned (insOf nds) out k = true) (hl : led nds out on k = l) : ∃ pre,(ord (insOf nds)).filter (pR nds out on l) = pre ++ [l] := by
  obtain ⟨h1,h2,h3⟩ := h.led_up (on := on) hk
  rw [hl] at h2 h3
  refine last_filter (ord_fine (insOf nds)).nodup (h.full l h2) (pR_iff.2 ⟨h3 hn,by rw [← hl]; exact h.led_led hk⟩) fun x hx hp => ?_
  obtain ⟨hx1,hx2⟩ := pR_iff.1 hp
  have := (h.led_up (on := on) (ord_lt hx)).1
  rw [hx2] at this
  exact this
theorem Good.outn (h : Good nds out) : out.toNat < nds.length ∧ ned (insOf nds) out out.toNat = true ∧ led nds out on out.toNat = out.toNat := by
  obtain ⟨h0,h1⟩ := h.outs
  refine ⟨by omega,(ned_iff _ _ _).2 ⟨h0,by rw [insOf_len]; exact h1,.base⟩,?_⟩
  cases e : jO nds out on out.toNat with
  | none => exact led_none e
  | some u =>
    obtain ⟨_,_,_,h2,_⟩ := jO_some e
    exact absurd (by omega) h2
theorem grp_mem {g : List Nat} : g ∈ grp nds out on ↔ 0 < g.length ∧ ∃ l,l ∈ ord (insOf nds) ∧ (ord (insOf nds)).filter (pR nds out on l) = g := by
  unfold grp gsP
  rw [List.take_length,List.mem_filter,List.mem_map]
  constructor
  · rintro ⟨⟨l,h1,h2⟩,h3⟩; exact ⟨by simpa using h3,l,h1,h2⟩
  · rintro ⟨h3,l,h1,h2⟩; exact ⟨⟨l,h1,h2⟩,by simpa using h3⟩
theorem Good.has_out (h : Good nds out) : ∃ r,r < (grp nds out on).length ∧ ((lastN ((grp nds out on).getD r []) : Nat) : Int) = out := by
  obtain ⟨h1,h2,h3⟩ := h.outn (on := on)
  obtain ⟨pre,hp⟩ := h.last (on := on) h1 h2 h3
  have hm : pre ++ [out.toNat] ∈ grp nds out on := grp_mem.2 ⟨by simp,out.toNat,h.full _ h1,hp⟩
  obtain ⟨r,hr,e⟩ := List.getElem_of_mem hm
  refine ⟨r,hr,?_⟩
  have : (grp nds out on).getD r [] = pre ++ [out.toNat] := by simp [hr,e]
  rw [this,lastN_snoc]
  have := h.outs
  omega
end
end Go.Proofs.YtaoamkbcegadcaaGreatDoor
/- Layer 16: groups: plain laws, for 'FuseWhole'. -/
namespace Go.Proofs.YtaoamkbcegadcaaGreatDoor
open Go.RowKit Go.Bx Go.Od Go.Hp
set_option linter.unusedVariables false

theorem filter_split {α : Type} {p : α → Bool} {y : α} : ∀ {xs : List α} {i : Nat},(xs.filter p)[i]? = some y → ∃ pre post,xs = pre ++ y :: post ∧ p y = true ∧ (xs.filter p).take i = pre.filter p
  | [],i,h => by simp at h
  | x :: xs,i,h => by
    by_cases hx : p x = true
    · rw [List.filter_cons_of_pos hx] at h ⊢
      cases i with
      | zero =>
        simp at h
        subst h
        exact ⟨[],xs,rfl,hx,rfl⟩
      | succ i =>
        simp at h
        obtain ⟨pre,post,e,h1,h2⟩ := filter_split (xs := xs) (i := i) h
        refine ⟨x :: pre,post,by rw [e]; rfl,h1,?_⟩
        rw [List.filter_cons_of_pos hx,List.take_succ_cons,h2]
    · rw [List.filter_cons_of_neg hx] at h ⊢
      obtain ⟨pre,post,e,h1,h2⟩ := filter_split (xs := xs) (i := i) h
      refine ⟨x :: pre,post,by rw [e]; rfl,h1,?_⟩
      rw [List.filter_cons_of_neg hx,h2]
theorem in_front {pre post : List Nat} {a j : Nat} {all : List Nat} (e : all = pre ++ a :: post) (hn : all.Nodup) (hj : j ∈ all) (h : all.idxOf j < all.idxOf a) : j ∈ pre := by
  subst e
  have hap : a ∉ pre := fun h => (List.nodup_append.1 hn).2.2 a h a (by simp) rfl
  rw [List.idxOf_append (a := a),if_neg hap] at h
  simp at h
  rw [List.idxOf_append] at h
  by_cases hjp : j ∈ pre
  · exact hjp
  · rw [if_neg hjp] at h
    omega
section
variable {nds : List Nd} {out : Int} {on : Bool}
theorem grp_i {i : Nat} (hi : i < (grp nds out on).length) : ∃ pre l post,ord (insOf nds) = pre ++ l :: post ∧ (grp nds out on).getD i [] = (ord (insOf nds)).filter (pR nds out on l) ∧ 0 < ((grp nds out on).getD i []).length ∧ (grp nds out on).take i = (pre.map fun l => (ord (insOf nds)).filter (pR nds out on l)).filter fun g => decide (0 < g.length) := by
  have h : (grp nds out on)[i]? = some ((grp nds out on).getD i []) := by simp [hi]
  generalize hL : (grp nds out on).getD i [] = L at *
  unfold grp gsP at h ⊢
  rw [List.take_length] at h ⊢
  obtain ⟨pre,post,e,h1,h2⟩ := filter_split h
  obtain ⟨l1,l2,e1,e2,e3⟩ := List.map_eq_append_iff.1 e
  obtain ⟨l,l3,e4,e5,e6⟩ := List.map_eq_cons_iff.1 e3
  exact ⟨l1,l,l3,by rw [e1,e4],e5.symm,by simpa using h1,by rw [h2,e2]⟩
theorem Good.w_lt (h : Good nds out) {i a : Nat} (hi : i < (grp nds out on).length) (ha : a ∈ (grp nds out on).getD i []) : a < nds.length := by
  obtain ⟨pre,l,post,e1,e2,_⟩ := grp_i hi
  rw [e2] at ha
  exact ord_lt (List.mem_filter.1 ha).1
theorem Good.w_last (h : Good nds out) {i : Nat} (hi : i < (grp nds out on).length) : ∃ l,(grp nds out on).getD i [] = (ord (insOf nds)).filter (pR nds out on l) ∧ lastN ((grp nds out on).getD i []) = l := by
  obtain ⟨pre,l,post,e1,e2,e3,_⟩ := grp_i hi
  refine ⟨l,e2,?_⟩
  rw [e2] at e3 ⊢
  obtain ⟨x,hx⟩ := List.exists_mem_of_length_pos e3
  obtain ⟨h1,h2⟩ := List.mem_filter.1 hx
  obtain ⟨h3,h4⟩ := pR_iff.1 h2
  obtain ⟨p,hp⟩ := h.last (ord_lt h1) h3 h4
  rw [hp,lastN_snoc]
theorem Good.w_within (h : Good nds out) {i a j : Nat} (hi : i < (grp nds out on).length) (ha : a ∈ (grp nds out on).getD i []) (hne : a ≠ lastN ((grp nds out on).getD i [])) (hj : j < nds.length) (hn : ned (insOf nds) out j = true) (hin : (a : Int) ∈ (nds.getD j Nd.none).ins) : j ∈ (grp nds out on).getD i [] := by
  obtain ⟨l,e2,e3⟩ := h.w_last hi
  rw [e3] at hne
  rw [e2] at ha ⊢
  obtain ⟨h1,h2⟩ := List.mem_filter.1 ha
  obtain ⟨h3,h4⟩ := pR_iff.1 h2
  have ha1 := ord_lt h1
  cases e : jO nds out on a with
  | none => rw [led_none e] at h4; exact absurd h4 hne
  | some u =>
    have hu := (jO_some e).2.2.2.2.2.2 j hj ((inp_mem _ _ _).2 ⟨by rw [insOf_len]; exact ha1,by rw [insOf_get]; exact hin⟩) hn
    subst hu
    rw [h.led_some ha1 e] at h4
    exact List.mem_filter.2 ⟨h.full j hj,pR_iff.2 ⟨hn,h4⟩⟩
def seenL (G : List (List Nat)) (i k : Nat) : List Nat := (G.take i).flatten ++ (G.getD i []).take k
theorem Good.w_behind (h : Good nds out) {i k a j : Nat} (hi : i < (grp nds out on).length) (ha : ((grp nds out on).getD i [])[k]? = some a) (hj : j < nds.length) (hin : (j : Int) ∈ (nds.getD a Nd.none).ins) : j ∈ seenL (grp nds out on) i k := by
  obtain ⟨pre,l,post,e1,e2,e3,e4⟩ := grp_i hi
  have hnd := (ord_fine (insOf nds)).nodup
  unfold seenL
  rw [e4]
  rw [e2] at ha ⊢
  obtain ⟨h1,h2⟩ := List.mem_filter.1 (List.mem_of_getElem? ha)
  obtain ⟨h3,h4⟩ := pR_iff.1 h2
  have ha1 := ord_lt h1
  have hji : j ∈ inp (insOf nds) a := (inp_mem _ _ _).2 ⟨by rw [insOf_len]; exact hj,by rw [insOf_get]; exact hin⟩
  have hb := h.before ha1 hji
  have hnj : ned (insOf nds) out j = true := (ned_iff _ _ _).2 (((ned_iff _ _ _).1 h3).next hji)
  have hjo := h.full j hj
  cases e : jO nds out on j with
  | some u =>
    have hua := (jO_some e).2.2.2.2.2.2 a ha1 hji h3
    subst hua
    have h5 : led nds out on j = l := by rw [h.led_some hj e]; exact h4
    obtain ⟨p2,q2,f1,f2,f3⟩ := filter_split ha
    rw [f3]
    exact List.mem_append_right _ (List.mem_filter.2 ⟨in_front f1 hnd hjo hb,pR_iff.2 ⟨hnj,h5⟩⟩)
  | none =>
    have h5 := led_none e
    have h6 := (h.led_up (on := on) ha1).1
    rw [h4] at h6
    have hjp : j ∈ pre := in_front e1 hnd hjo (by unfold at_ at hb h6; omega)
    have hjm : j ∈ (ord (insOf nds)).filter (pR nds out on j) := List.mem_filter.2 ⟨hjo,pR_iff.2 ⟨hnj,h5⟩⟩
    refine List.mem_append_left _ (List.mem_flatten.2 ⟨_,List.mem_filter.2 ⟨List.mem_map.2 ⟨j,hjp,rfl⟩,?_⟩,hjm⟩)
    exact decide_eq_true (List.length_pos_of_mem hjm)
theorem flat_ne (xs : List (List Nat)) : (xs.filter fun g => decide (0 < g.length)).flatten = xs.flatten := by
  induction xs with
  | nil => rfl
  | cons x xs ih =>
    cases x with
    | nil => rw [List.filter_cons_of_neg (by simp),ih]; rfl
    | cons y ys => rw [List.filter_cons_of_pos (by simp),List.flatten_cons,List.flatten_cons,ih]
theorem Good.w_count (h : Good nds out) {r : Nat} (hr : r < nds.length) : (grp nds out on).flatten.count r = if ned (insOf nds) out r = true then 1 else 0 := by
  unfold grp gsP
  rw [List.take_length,flat_ne]
  have hnd := (ord_fine (insOf nds)).nodup
  have key : ∀ xs : List Nat,(xs.map fun l => (ord (insOf nds)).filter (pR nds out on l)).flatten.count r = if ned (insOf nds) out r = true then xs.count (led nds out on r) else 0 := by
    intro xs
    induction xs with
    | nil => simp
    | cons x xs ih =>
      rw [List.map_cons,List.flatten_cons,List.count_append,ih]
      have hf : ((ord (insOf nds)).filter (pR nds out on x)).count r = if ned (insOf nds) out r = true ∧ led nds out on r = x then 1 else 0 := by
        rw [List.Nodup.count (hnd.filter _)]
        have : r ∈ (ord (insOf nds)).filter (pR nds out on x) ↔ ned (insOf nds) out r = true ∧ led nds out on r = x := by
          rw [List.mem_filter,pR_iff]
          exact ⟨fun h => h.2,fun h2 => ⟨h.full r hr,h2⟩⟩
        by_cases hc : ned (insOf nds) out r = true ∧ led nds out on r = x
        · rw [if_pos hc,if_pos (this.2 hc)]
        · rw [if_neg hc,if_neg fun h => hc (this.1 h)]
      rw [hf,List.count_cons]
      by_cases hn : ned (insOf nds) out r = true
      · rw [if_pos hn,if_pos hn]
        by_cases hx : led nds out on r = x
        · rw [if_pos ⟨hn,hx⟩,if_pos (by rw [hx]; simp)]; omega
        · rw [if_neg (fun h => hx h.2),if_neg (by simpa using fun h => hx h.symm)]; omega
      · rw [if_neg hn,if_neg hn,if_neg (fun h => hn h.1)]
  rw [key]
  by_cases hn : ned (insOf nds) out r = true
  · rw [if_pos hn,if_pos hn,List.Nodup.count hnd,if_pos (h.full _ (h.led_up hr).2.1)]
  · rw [if_neg hn,if_neg hn]
end
end Go.Proofs.YtaoamkbcegadcaaGreatDoor
