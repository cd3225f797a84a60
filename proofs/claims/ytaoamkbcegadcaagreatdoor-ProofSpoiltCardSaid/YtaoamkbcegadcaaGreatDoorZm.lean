/- Texts joined: XZm XZn. -/
import Derived.Test.YtaoamkbcegadcaaGreatDoorZl
import Derived.Maps.RangeWalk
set_option maxRecDepth 4000
/- Layer 20: rule 6 (peak): a map ranged over. -/
namespace Go.Proofs.YtaoamkbcegadcaaGreatDoor
open Go.RowKit Go.Bx Go.Od Go.Hp
attribute [local go_sem ↓] Go.wp_at_zero Go.wp_at_succ
set_option linter.unusedVariables false

/-! ### a map of one's own whose keys are all known -/
def MapD (w : World) (b nk c : Nat) (D : DataW Unit) (m : Nat → Option Nat) : Prop :=
  ∃ c' : Nat,c' ≤ c ∧ w.ownsMap Tryz.prog 3 (plainElem Tryz.prog 3) b c' D ∧ Go.Maps.IsMap D ∧ nk ≤ 1000000 ∧
    (∀ k : Nat,k < nk → D.atKey (.int .i64 k) (.lit (.int .i64 0)) = .lit (.int .i64 ((m k).getD 0 : Nat)) ∧ Go.Maps.has D (.int .i64 k) = (m k).isSome) ∧ ∀ kl,Go.Maps.has D kl = true → ∃ k : Nat,k < nk ∧ kl = .int .i64 k
variable {w w' : World} {b n c : Nat} {D : DataW Unit} {m : Nat → Option Nat}
theorem MapD.kept {row : Option Nat} (h : MapD w b n c D m) (hg : w.grownBy w' row) (hne : some b ≠ row) : MapD w' b n c D m := by
  obtain ⟨c',h0,h1,h2⟩ := h
  exact ⟨c',h0,h1.kept hg hne,h2⟩
theorem grown_below {w w' : World} (h : Below w.heap.size w w') : w.grownBy w' none := ⟨h.os,h.tape,h.output,h.size,fun k hk _ => h.block k hk⟩
theorem MapD.call (h : MapD w b n c D m) (hb : Below w.heap.size w w') : MapD w' b n c D m := h.kept (grown_below hb) (by simp)
theorem MapD.made (w : World) (n : Nat) (hn : n ≤ 1000000) : MapD (w.alloc (.map #[] 0)) w.heap.size n 0 (.map []) (fun _ => none) :=
  ⟨0,Nat.le_refl _,World.ownsMap_made w _ _ _,Go.Maps.isMap_empty,hn,(fun k _ => ⟨by simp [DataW.atKey],by simp [Go.Maps.has]⟩),fun kl h => by simp [Go.Maps.has] at h⟩
theorem MapD.lt (h : MapD w b n c D m) : b < w.heap.size := by
  obtain ⟨c',_,h1,_⟩ := h
  exact h1.lt
theorem MapD.put (h : MapD w b n c D m) {k v : Nat} (hk : k < n) (hv : v < 1000000) (hs : c ≤ 100000) : ∃ w',(Instr.mapUpdate 54 (.map (some b)) (.int .i64 k) (.int .i64 v)).run Tryz.prog w = .ok () w' ∧ MapD w' b n (c + 1) (D.put (.int .i64 k) (.lit (.int .i64 v))) (fun r => if r = k then some v else m r) ∧ w.grownBy w' (some b) := by
  obtain ⟨c',h0,h1,h2,h3,h4,h5⟩ := h
  obtain ⟨w',hrun,r1,r2⟩ := h1.update keyInt Tryz.underlying54 (by unfold maxLen; omega) (Maps.keyOf_int_mk Tryz.underlying3 (wfN (k := k) (by omega))) (plainElem_int Tryz.underlying3 (wfN (k := v) (by omega)))
  refine ⟨w',hrun,⟨c' + 1,by omega,r1,h2.put _ _,h3,fun j hj => ?_,fun kl hkl => ?_⟩,r2⟩
  · by_cases e : j = k
    · subst e
      rw [Go.Maps.atKey_put_same h2 (by trivial),Go.Maps.has_put_same h2 (by trivial)]
      simp
    · rw [Go.Maps.atKey_put_other (by simp; omega),(h4 j hj).1,Go.Maps.has_put_other (by simp; omega),(h4 j hj).2]
      simp [e]
  · by_cases e : kl = .int .i64 k
    · exact ⟨k,hk,e⟩
    · rw [Go.Maps.has_put_other e] at hkl
      exact h5 kl hkl
theorem MapD.entry (h : MapD w b n c D m) {x v : Int} (hl : Go.Maps.has D (.int .i64 x) = true) (hat : ∀ zd,D.atKey (.int .i64 x) zd = .lit (.int .i64 v)) : ∃ k : Nat,k < n ∧ x = k ∧ ∃ i : Nat,m k = some i ∧ v = i := by
  obtain ⟨c',h0,h1,h2,h3,h4,h5⟩ := h
  obtain ⟨k,hk,e⟩ := h5 _ hl
  simp only [Lit.int.injEq,true_and] at e
  subst e
  obtain ⟨e1,e2⟩ := h4 k hk
  rw [hat] at e1
  rw [hl] at e2
  simp only [DataW.lit.injEq,Lit.int.injEq,true_and] at e1
  cases hm : m k with
  | none => rw [hm] at e2; cases e2
  | some i => exact ⟨k,hk,rfl,i,hm ▸ rfl,by rw [e1,hm]; rfl⟩
theorem MapD.has (h : MapD w b n c D m) {k : Nat} (hk : k < n) : Go.Maps.has D (.int .i64 k) = (m k).isSome := by
  obtain ⟨c',h0,h1,h2,h3,h4,h5⟩ := h
  exact (h4 k hk).2
/-! ### sums -/
theorem sum_congr {f g : Nat → Int} {N : Nat} (h : ∀ r,r < N → g r = f r) : sumI ((List.range N).map g) = sumI ((List.range N).map f) := by
  induction N with
  | zero => rfl
  | succ N ih =>
    rw [List.range_succ,List.map_append,List.map_append,sumI_app,sumI_app,ih fun r hr => h r (by omega)]
    simp [sumI,h N (by omega)]
theorem sum_upd {f g : Nat → Int} {x : Nat} : ∀ {N : Nat},x < N → (∀ r,r < N → r ≠ x → g r = f r) → sumI ((List.range N).map g) = sumI ((List.range N).map f) + (g x - f x)
  | N + 1,hx,h => by
    rw [List.range_succ,List.map_append,List.map_append,sumI_app,sumI_app]
    by_cases e : x = N
    · rw [sum_congr fun r hr => h r (by omega) (by omega),e]
      simp [sumI]; omega
    · rw [sum_upd (N := N) (by omega) fun r hr => h r (by omega)]
      have := h N (by omega) (fun e' => e e'.symm)
      simp [sumI,this]; omega
theorem sum_zero {f : Nat → Int} {N : Nat} (h : ∀ r,r < N → f r = 0) : sumI ((List.range N).map f) = 0 := by
  rw [sum_congr (f := fun _ => 0) h]
  induction N with
  | zero => rfl
  | succ N ih =>
    rw [List.range_succ,List.map_append,sumI_app,ih fun r hr => h r (by omega)]
    simp [sumI]
theorem sum_bd {f : Nat → Int} {X : Int} {N : Nat} (h : ∀ r,r < N → 0 ≤ f r ∧ f r ≤ X) : 0 ≤ sumI ((List.range N).map f) ∧ sumI ((List.range N).map f) ≤ N * X := by
  induction N with
  | zero => simp [sumI]
  | succ N ih =>
    rw [List.range_succ,List.map_append,sumI_app]
    have h1 := ih fun r hr => h r (by omega)
    have h2 := h N (by omega)
    simp only [List.map_cons,List.map_nil,sumI]
    generalize sumI ((List.range N).map f) = S at h1 ⊢
    generalize f N = F at h2 ⊢
    have e : ((N + 1 : Nat) : Int) * X = N * X + X := by rw [Int.natCast_add,Int.add_mul]; simp
    rw [e]
    omega
/-! ### whose a slot is -/
theorem owK_lt {ps : List Ps} {r i : Nat} : ∀ {k : Nat},owK ps k r = some i → i < k
  | k + 1,h => by
    unfold owK at h
    split at h
    · cases h; omega
    · have := owK_lt h; omega
def slF (al : Bool) (ps : List Ps) (k r : Nat) : Int := match owK ps (k + 1) r with | some i => cnt al ps k i | none => 0
theorem slF_bd (al : Bool) (ps : List Ps) (k r : Nat) : 0 ≤ slF al ps k r ∧ slF al ps k r ≤ 1099511627776 := by
  unfold slF
  split
  · unfold cnt
    split
    · exact sz_bd _
    · omega
  · omega
def leftS (al : Bool) (ps : List Ps) (N k : Nat) (left : Lit → Bool) : Int := sumI ((List.range N).map fun r : Nat => if left (.int .i64 r) = true then 0 else slF al ps k r)
theorem leftS_bd (al : Bool) (ps : List Ps) {N : Nat} (k : Nat) (left : Lit → Bool) (hN : N ≤ 1000) : 0 ≤ leftS al ps N k left ∧ leftS al ps N k left ≤ 1099511627776000 := by
  have h := sum_bd (N := N) (X := 1099511627776) (f := fun r : Nat => if left (.int .i64 r) = true then 0 else slF al ps k r) fun r _ => by
    have := slF_bd al ps k r
    show 0 ≤ (if left (.int .i64 r) = true then (0 : Int) else slF al ps k r) ∧ (if left (.int .i64 r) = true then (0 : Int) else slF al ps k r) ≤ 1099511627776
    split <;> omega
  unfold leftS
  omega
theorem leftS_end {al : Bool} {ps : List Ps} {N k : Nat} {left : Lit → Bool} (h : ∀ kl,left kl = false) : leftS al ps N k left = useK al ps N k := by
  unfold leftS useK
  refine sum_congr fun r _ => ?_
  rw [h]
  rfl
theorem leftS_start {al : Bool} {ps : List Ps} {N k : Nat} {left : Lit → Bool} (h : ∀ r,r < N → left (.int .i64 r) = (owK ps (k + 1) r).isSome) : leftS al ps N k left = 0 := by
  refine sum_zero fun r hr => ?_
  rw [h r hr]
  unfold slF
  cases owK ps (k + 1) r <;> simp
theorem leftS_step {al : Bool} {ps : List Ps} {N k : Nat} {left : Lit → Bool} {x i : Nat} (hx : x < N) (hl : left (.int .i64 x) = true) (ho : owK ps (k + 1) x = some i) :
    leftS al ps N k (fun z => left z && !z.sameKey (.int .i64 x)) = leftS al ps N k left + cnt al ps k i := by
  unfold leftS
  rw [sum_upd (x := x) (f := fun r : Nat => if left (.int .i64 r) = true then 0 else slF al ps k r) hx fun r _ hne => ?_]
  · have e1 : slF al ps k x = cnt al ps k i := by unfold slF; rw [ho]
    have e2 : (Lit.int .i64 (x : Nat)).sameKey (.int .i64 (x : Nat)) = true := WideAt.sameKey_self (by trivial)
    simp only [hl,e1,e2]
    simp
  · have e3 : (Lit.int .i64 (r : Nat)).sameKey (.int .i64 (x : Nat)) = false := Go.Maps.sameKey_ne (by simp; omega)
    simp only [e3]
    simp
theorem mostK_bd (al : Bool) (ps : List Ps) {N : Nat} (hN : N ≤ 1000) : ∀ k,0 ≤ mostK al ps N k ∧ mostK al ps N k ≤ 1099511627776000
  | 0 => by unfold mostK; omega
  | k + 1 => by
    have h1 := mostK_bd al ps hN k
    have h2 := leftS_bd al ps k (fun _ => false) hN
    rw [leftS_end fun _ => rfl] at h2
    unfold mostK
    omega
end Go.Proofs.YtaoamkbcegadcaaGreatDoor
/- Layer 20: rule 6 (peak): the walk. -/
namespace Go.Proofs.YtaoamkbcegadcaaGreatDoor
open Go.RowKit Go.Bx Go.Od Go.Hp
attribute [local go_sem ↓] Go.wp_at_zero Go.wp_at_succ
set_option linter.unusedVariables false

set_option maxRecDepth 4000 in
set_option maxHeartbeats 6400000 in
theorem qpeak_c {B q m : Nat} {nv pv : Value} {nds : List Nd} {out : Int} {want : Rc} {c : Cf} {p : Pn} (w : World) (hq : QM B q m nv nds out want c pv p w) (hP : p.ps.length ≤ 1000)
    (hok : ∀ y ∈ p.ps,POk y) (hs : ∀ y ∈ p.ps,y.slot < p.sn) (hN : p.sn ≤ 1000) :
    Calls Tryz.prog 21 #[.pointer (some ⟨q,0,none⟩)] w (PPost w (.bool (ck6 c.al p.sn.toNat p))) := by
  obtain ⟨N,hNe⟩ : ∃ N,N = p.sn.toNat := ⟨_,rfl⟩
  obtain ⟨al,hal⟩ : ∃ al,al = c.al := ⟨_,rfl⟩
  obtain ⟨R,hR⟩ : ∃ R,R = ck6 c.al p.sn.toNat p := ⟨_,rfl⟩
  obtain ⟨pk,hpk⟩ : ∃ z,z = p.pk := ⟨_,rfl⟩
  have HR : Hid (R = decide (mostK al p.ps N p.ps.length = pk)) := by
    have : R = decide (mostK al p.ps N p.ps.length = pk) := by rw [hR,hNe,hal,hpk]; rfl
    exact this
  rw [← hR]
  have HN : Hid (N ≤ 1000) := by
    have : N ≤ 1000 := by omega
    exact this
  have HS : Hid (∀ y ∈ p.ps,y.slot < (N : Int) ∨ y.slot < 0) := fun y hy => by
    have := hs y hy
    rw [hNe]
    omega
  obtain ⟨P,hPe⟩ : ∃ P,P = p.ps.length := ⟨_,rfl⟩
  have HPE : Hid (P = p.ps.length) := hPe
  obtain ⟨a,cap,rfl⟩ := hq.sl
  have q11 := hq.box.cell 11 rfl
  have q17 := hq.box.cell 17 rfl
  have q7 := hq.box.cell 7 rfl
  rw [← hPe] at q11 hP
  rw [← hal] at q7
  rw [← hpk] at q17
  have HQ : Hid (QM B q m nv nds out want c (.slice a p.ps.length cap) p w) := hq
  have HOK : Hid (∀ y ∈ p.ps,POk y) := hok
  have HAL : Hid (al = c.al) := hal
  have HPK : Hid (pk = p.pk) := hpk
  have HMB : Hid (∀ k,0 ≤ mostK al p.ps N k ∧ mostK al p.ps N k ≤ 1099511627776000) := mostK_bd al p.ps HN.out
  have hmm := @run_makeMap Tryz.prog
  have HMD0 : Hid (MapD (w.alloc (.map #[] 0)) w.heap.size N 0 (.map []) fun _ => none) := MapD.made w N (by have := HN.out; omega)
  have HW0 : Hid (Below w.heap.size w (w.alloc (.map #[] 0))) := below_new w _
  have q11 := (HW0.out.cell hq.box.lt).trans q11
  clear hq hok hs hN hR hPe hal hpk hNe
  go_enter Tryz.func21,Tryz.ntmps21
  go_wp2_with fail
  go_loopw [17,4] (fun iv mv wr => ∃ k : Nat,k ≤ P ∧ iv = .int .i64 k ∧ ∃ mo : Int,mv = .int .i64 mo ∧ Hid (mo = mostK al p.ps N k) ∧ ∃ D,Hid (MapD wr w.heap.size N k D (owK p.ps k)) ∧ Hid (Below w.heap.size w wr)) (fun iv _ _ => P - (intOf iv).toNat)
  case atStart => exact ⟨0,by omega,rfl,0,rfl,(rfl : (0 : Int) = 0),_,HMD0,HW0⟩
  case round =>
    obtain ⟨k,hk,rfl,mo,rfl,hmo,D,hmd,hbw⟩ := hrel
    by_cases h1 : k < P
    · have hip : k < p.ps.length := by rw [← HPE.out]; exact h1
      obtain ⟨y,hy⟩ : ∃ y,y = p.ps.getD k Ps.none := ⟨_,rfl⟩
      have hym : y ∈ p.ps := by rw [hy]; exact getD_mem _ hip
      have HY : Hid (y = p.ps.getD k Ps.none ∧ k < p.ps.length ∧ y ∈ p.ps) := ⟨hy,hip,hym⟩
      have HQ1 : Hid (QM B q m nv nds out want c (.slice a p.ps.length cap) p wr) := HQ.out.call hbw.out
      obtain ⟨b,o,na,nc,ra,rc,rfl,hbB,hpc,hs1,hs2⟩ := HQ1.out.gp.at hip hy
      obtain ⟨k0,k1,k2,k3,k4,k5,k6,k7⟩ := hpc
      obtain ⟨sl,hsl⟩ : ∃ z,z = y.slot := ⟨_,rfl⟩
      have HSL : Hid (sl = (p.ps.getD k Ps.none).slot) := by
        have : sl = (p.ps.getD k Ps.none).slot := by rw [hsl,hy]
        exact this
      have hslN := HS.out y hym
      rw [← hsl] at k6 hslN
      have hk0 : (0 : Int) ≤ (k : Int) := by omega
      have hk1 : (k : Int) < (P : Int) := by omega
      clear hy hip hym hs1 hs2 hsl
      by_cases hs0 : 0 ≤ sl
      · obtain ⟨r,rfl⟩ : ∃ r : Nat,sl = (r : Int) := ⟨sl.toNat,by omega⟩
        have hrN : r < N := by omega
        have X := Box.new wr [.slice na y.nodes.length nc,.slice ra y.reads.length rc,.int .i64 y.box.x0,.int .i64 y.box.y0,.int .i64 y.box.x1,.int .i64 y.box.y1,.int .i64 (r : Nat),.int .i64 y.last] 37
        have hbn := below_new wr (.cells #[.slice na y.nodes.length nc,.slice ra y.reads.length rc,.int .i64 y.box.x0,.int .i64 y.box.y0,.int .i64 y.box.x1,.int .i64 y.box.y1,.int .i64 (r : Nat),.int .i64 y.last] 37)
        have x6 := X.cell 6 rfl
        obtain ⟨w3,hput,hm3,hg3⟩ := (hmd.out.call hbn).put (k := r) (v := k) hrN (by omega) (by omega)
        have HM3 : Hid (MapD w3 w.heap.size N (k + 1) (D.put (.int .i64 (r : Nat)) (.lit (.int .i64 (k : Nat)))) (owK p.ps (k + 1))) := by
          have e : (fun r' => if r' = r then some k else owK p.ps k r') = owK p.ps (k + 1) := by
            funext r'
            unfold owK
            rw [← HSL.out]
            by_cases e : r' = r
            · rw [if_pos e,if_pos ⟨by omega,by omega⟩]
            · rw [if_neg e,if_neg (by omega)]
              cases k <;> rfl
          rw [← e]
          exact hm3
        have HB3 : Hid (Below w.heap.size w w3) := hbw.out.trans ((hbn.mono hbw.out.size).trans ⟨hg3.os,hg3.tape,hg3.output,hg3.size,fun j hj => hg3.block j (by have := hbn.size; have := hbw.out.size; omega) (by simp; omega)⟩)
        have hd0 : decide ((0 : Int) ≤ (r : Int)) = true := decide_eq_true hs0
        clear hm3 hg3 X hbn hs0 hslN
        obtain ⟨c',hc',hown,hmr⟩ := HM3.out
        have HMR : Hid _ := hmr
        have HBW : Hid (w.heap.size ≤ w3.heap.size) := HB3.out.size
        have hMr : w.heap.size < w3.heap.size := HM3.out.lt
        clear hmr
        go_wp2_with (first | (at_range; refine wpList_range_own _ rfl _ 54 rfl 3 3 keyInt Tryz.underlying54 _ w.heap.size c' _ rfl hown ?_; intro w0 hrg0 hg0 hs0) | fail)
        try go_frame
        have HB0 : Hid (Below w.heap.size w w0) := HB3.out.trans ⟨hg0.os,hg0.tape,hg0.output,hg0.size,fun j hj => hg0.block j (by have := HBW.out; omega) (by simp)⟩
        have HRB0 : w.heap.size ≤ w3.heap.size := HBW.out
        generalize w3.heap.size = RB at hrg0 hMr HRB0 ⊢
        have HRB : Hid (w.heap.size ≤ RB) := HRB0
        clear HRB0
        go_loopw [7] (fun nv wr' => ∃ (left : Lit → Bool) (ct : Nat) (nn : Int),nv = .int .i64 nn ∧ Hid (nn = leftS al p.ps N k left) ∧ Hid (∀ kl,left kl = true → Go.Maps.has (D.put (.int .i64 (r : Nat)) (.lit (.int .i64 (k : Nat)))) kl = true) ∧ Hid (wr'.ranges Tryz.prog 3 (plainElem Tryz.prog 3) w.heap.size RB c' (D.put (.int .i64 (r : Nat)) (.lit (.int .i64 (k : Nat)))) left ct) ∧ Hid (Below w.heap.size w wr')) (fun _ wr' => wr'.rangeLeft w.heap.size RB)
        case atStart =>
          refine ⟨_,_,0,rfl,?_,?_,hrg0,HB0⟩
          · have : leftS al p.ps N k (Go.Maps.has (D.put (.int .i64 (r : Nat)) (.lit (.int .i64 (k : Nat))))) = 0 := leftS_start fun r' hr' => HM3.out.has hr'
            exact this.symm
          · exact fun kl h => h
        case round =>
          rename World => wr2
          obtain ⟨left,ct,nn,rfl,hnn,hsub,hrg,hbw2⟩ := hrel
          have hnb := leftS_bd al p.ps k left HN.out
          rw [← hnn.out] at hnb
          have HRG : Hid (wr2.ranges Tryz.prog 3 (plainElem Tryz.prog 3) w.heap.size RB c' (D.put (.int .i64 (r : Nat)) (.lit (.int .i64 (k : Nat)))) left ct) := hrg.out
          clear hrg0 hown hg0 hs0
          go_wp2_with (first | (at_next; refine wpList_next_ranges_ii _ rfl _ rfl 3 3 .i64 .i64 keyInt Tryz.underlying3 Tryz.underlying3 w.heap.size RB c' _ _ _ rfl hrg.out ?_ ?_) | fail)
          · intro hc0 hl0
            have HMD2 : Hid (MapD wr2 w.heap.size N (k + 1) (D.put (.int .i64 (r : Nat)) (.lit (.int .i64 (k : Nat)))) (owK p.ps (k + 1))) := ⟨c',hc',hrg.out.owns,HMR.out⟩
            have HMK : Hid (max mo nn = mostK al p.ps N (k + 1)) := by
              have : max mo nn = mostK al p.ps N (k + 1) := by
                rw [hmo.out,hnn.out,leftS_end hl0]; rfl
              exact this
            clear hrg HRG hc0 hl0 hsub hnb
            go_wp2_with fail
            go_roundw
            case rel => exact ⟨k + 1,by omega,by go_num,max mo nn,by go_num,HMK,_,HMD2,hbw2⟩
            case measure => simp [intOf]; omega
          · intro x v w1 cnt1 hwx hwv hlx hat hrg1 hlt hg1 hs1 hen
            obtain ⟨r',hr',rfl,i,hi,rfl⟩ := HM3.out.entry (hsub.out _ hlx) hat
            have hik := owK_lt hi
            have HB1 : Hid (Below w.heap.size w w1) := hbw2.out.trans ⟨hg1.os,hg1.tape,hg1.output,hg1.size,fun j hj => hg1.block j (by have := hbw2.out.size; omega) (by have := HRB.out; simp; omega)⟩
            have hil : i < p.ps.length := by have := HPE.out; omega
            obtain ⟨v,hv⟩ : ∃ v,v = p.ps.getD i Ps.none := ⟨_,rfl⟩
            have hvm : v ∈ p.ps := by rw [hv]; exact getD_mem _ hil
            have HQ5 : Hid (QM B q m nv nds out want c (.slice (some ⟨b,o,none⟩) p.ps.length cap) p w1) := HQ.out.call HB1.out
            obtain ⟨b',o',na',nc',ra',rc',hv',hbB',hpc',hs1',hs2'⟩ := HQ5.out.gp.at hil hv
            simp only [Option.some.injEq,Addr.mk.injEq,and_true] at hv'
            obtain ⟨rfl,rfl⟩ := hv'
            obtain ⟨l0,l1,l2,l3,l4,l5,l6,l7⟩ := hpc'
            have s7 := HQ5.out.box.cell 7 rfl
            have s11 := HQ5.out.box.cell 11 rfl
            rw [← HAL.out] at s7
            rw [← HPE.out] at s11
            obtain ⟨z,hz⟩ : ∃ z,z = szP v := ⟨_,rfl⟩
            obtain ⟨la,hla⟩ : ∃ z,z = v.last := ⟨_,rfl⟩
            rw [← hla] at l7
            have hsz := fun W => qsize_c na' v.nodes.length nc' ra' v.reads.length rc' v W (HOK.out v hvm).2.2.2
            unfold pvl at hsz
            rw [← hla,← hz] at hsz
            have HSZ : Hid _ := hsz
            have hzb : 0 ≤ z ∧ z ≤ 1099511627776 := by rw [hz]; exact sz_bd _
            have HCN : Hid (cnt al p.ps k i = if al = false ∨ (k : Int) ≤ la then z else 0) := by
              have : cnt al p.ps k i = if al = false ∨ (k : Int) ≤ la then z else 0 := by unfold cnt; rw [← hv,← hla,← hz]
              exact this
            have hi0 : (0 : Int) ≤ (i : Int) := by omega
            have hi1 : (i : Int) < (P : Int) := by omega
            have HST : Hid (leftS al p.ps N k (fun z => left z && !z.sameKey (.int .i64 (r' : Nat))) = nn + cnt al p.ps k i) := by
              have : leftS al p.ps N k (fun z => left z && !z.sameKey (.int .i64 (r' : Nat))) = nn + cnt al p.ps k i := by rw [hnn.out]; exact leftS_step hr' hlx hi
              exact this
            have HSU : Hid (∀ kl,(fun z => left z && !z.sameKey (.int .i64 (r' : Nat))) kl = true → Go.Maps.has (D.put (.int .i64 (r : Nat)) (.lit (.int .i64 (k : Nat)))) kl = true) := fun kl h => hsub.out kl (by
              have h' : (left kl && !kl.sameKey (.int .i64 (r' : Nat))) = true := h
              rw [Bool.and_eq_true] at h'
              exact h'.1)
            have HRG1 : Hid (w1.ranges Tryz.prog 3 (plainElem Tryz.prog 3) w.heap.size RB c' (D.put (.int .i64 (r : Nat)) (.lit (.int .i64 (k : Nat)))) (fun z => left z && !z.sameKey (.int .i64 (r' : Nat))) cnt1) := hrg1
            have HLT : Hid (cnt1 < ct) := hlt
            clear hrg hrg1 hlt hwx hwv hlx hat hg1 hs1 hs1' hs2' hv hvm hz hla hil hik hi hr' hsz hbB' hsub
            cases al with
            | false =>
              have HCZ : Hid (cnt false p.ps k i = z) := by
                have : cnt false p.ps k i = z := by rw [HCN.out,if_pos (.inl rfl)]
                exact this
              go_wp2_with fail
              refine (HSZ.out _).mono ?_; rintro e w7 ⟨rfl,hb7⟩
              have HB7 : Hid (Below w.heap.size w w7) := HB1.out.trans (hb7.mono HB1.out.size)
              have HRG7 : Hid (w7.ranges Tryz.prog 3 (plainElem Tryz.prog 3) w.heap.size RB c' (D.put (.int .i64 (r : Nat)) (.lit (.int .i64 (k : Nat)))) (fun z => left z && !z.sameKey (.int .i64 (r' : Nat))) cnt1) := World.ranges.kept HRG1.out (grown_below hb7) (by simp) (by simp)
              have HNN : Hid (nn + z = leftS false p.ps N k (fun z => left z && !z.sameKey (.int .i64 (r' : Nat)))) := by
                have : nn + z = leftS false p.ps N k (fun z => left z && !z.sameKey (.int .i64 (r' : Nat))) := by rw [HST.out,HCZ.out]
                exact this
              have HME : Hid (w7.rangeLeft w.heap.size RB < wr2.rangeLeft w.heap.size RB) := by
                have : w7.rangeLeft w.heap.size RB < wr2.rangeLeft w.heap.size RB := by rw [World.ranges.left_eq HRG7.out,World.ranges.left_eq HRG.out]; exact HLT.out
                exact this
              clear hb7
              go_wp2_with fail
              go_roundw
              case rel => exact ⟨_,cnt1,nn + z,by go_num,HNN,HSU,HRG7,HB7⟩
              case measure => exact HME.out
            | true =>
              by_cases hla : (k : Int) ≤ la
              · have hld : decide ((k : Int) ≤ la) = true := decide_eq_true hla
                have HCZ : Hid (cnt true p.ps k i = z) := by
                  have : cnt true p.ps k i = z := by rw [HCN.out,if_pos (.inr hla)]
                  exact this
                clear hla
                go_wp2_with fail
                refine (HSZ.out _).mono ?_; rintro e w7 ⟨rfl,hb7⟩
                have HB7 : Hid (Below w.heap.size w w7) := HB1.out.trans (hb7.mono HB1.out.size)
                have HRG7 : Hid (w7.ranges Tryz.prog 3 (plainElem Tryz.prog 3) w.heap.size RB c' (D.put (.int .i64 (r : Nat)) (.lit (.int .i64 (k : Nat)))) (fun z => left z && !z.sameKey (.int .i64 (r' : Nat))) cnt1) := World.ranges.kept HRG1.out (grown_below hb7) (by simp) (by simp)
                have HNN : Hid (nn + z = leftS true p.ps N k (fun z => left z && !z.sameKey (.int .i64 (r' : Nat)))) := by
                  have : nn + z = leftS true p.ps N k (fun z => left z && !z.sameKey (.int .i64 (r' : Nat))) := by rw [HST.out,HCZ.out]
                  exact this
                have HME : Hid (w7.rangeLeft w.heap.size RB < wr2.rangeLeft w.heap.size RB) := by
                  have : w7.rangeLeft w.heap.size RB < wr2.rangeLeft w.heap.size RB := by rw [World.ranges.left_eq HRG7.out,World.ranges.left_eq HRG.out]; exact HLT.out
                  exact this
                clear hb7
                go_wp2_with fail
                go_roundw
                case rel => exact ⟨_,cnt1,nn + z,by go_num,HNN,HSU,HRG7,HB7⟩
                case measure => exact HME.out
              · have hld : decide ((k : Int) ≤ la) = false := decide_eq_false hla
                have HNN : Hid (nn = leftS true p.ps N k (fun z => left z && !z.sameKey (.int .i64 (r' : Nat)))) := by
                  have : nn = leftS true p.ps N k (fun z => left z && !z.sameKey (.int .i64 (r' : Nat))) := by rw [HST.out,HCN.out,if_neg (by simp; omega)]; omega
                  exact this
                have HME : Hid (w1.rangeLeft w.heap.size RB < wr2.rangeLeft w.heap.size RB) := by
                  have : w1.rangeLeft w.heap.size RB < wr2.rangeLeft w.heap.size RB := by rw [World.ranges.left_eq HRG1.out,World.ranges.left_eq HRG.out]; exact HLT.out
                  exact this
                clear hla
                go_wp2_with fail
                go_roundw
                case rel => exact ⟨_,cnt1,nn,rfl,HNN,HSU,HRG1,HB1⟩
                case measure => exact HME.out
      · have hd0 : decide (0 ≤ sl) = false := decide_eq_false hs0
        have X := Box.new wr [.slice na y.nodes.length nc,.slice ra y.reads.length rc,.int .i64 y.box.x0,.int .i64 y.box.y0,.int .i64 y.box.x1,.int .i64 y.box.y1,.int .i64 sl,.int .i64 y.last] 37
        have hbn := below_new wr (.cells #[.slice na y.nodes.length nc,.slice ra y.reads.length rc,.int .i64 y.box.x0,.int .i64 y.box.y0,.int .i64 y.box.x1,.int .i64 y.box.y1,.int .i64 sl,.int .i64 y.last] 37)
        have x6 := X.cell 6 rfl
        have HM3 : Hid (MapD (wr.alloc (.cells #[.slice na y.nodes.length nc,.slice ra y.reads.length rc,.int .i64 y.box.x0,.int .i64 y.box.y0,.int .i64 y.box.x1,.int .i64 y.box.y1,.int .i64 sl,.int .i64 y.last] 37)) w.heap.size N (k + 1) D (owK p.ps (k + 1))) := by
          have e : owK p.ps (k + 1) = owK p.ps k := by
            funext r'
            unfold owK
            rw [← HSL.out,if_neg (by omega)]
            cases k <;> rfl
          rw [e]
          obtain ⟨c',hc',hh⟩ := hmd.out.call hbn
          exact ⟨c',by omega,hh⟩
        have HB3 : Hid (Below w.heap.size w (wr.alloc (.cells #[.slice na y.nodes.length nc,.slice ra y.reads.length rc,.int .i64 y.box.x0,.int .i64 y.box.y0,.int .i64 y.box.x1,.int .i64 y.box.y1,.int .i64 sl,.int .i64 y.last] 37))) := hbw.out.trans (hbn.mono hbw.out.size)
        clear X hbn hslN
        obtain ⟨c',hc',hown,hmr⟩ := HM3.out
        have HMR : Hid _ := hmr
        have HBW : Hid (w.heap.size ≤ (wr.alloc (.cells #[.slice na y.nodes.length nc,.slice ra y.reads.length rc,.int .i64 y.box.x0,.int .i64 y.box.y0,.int .i64 y.box.x1,.int .i64 y.box.y1,.int .i64 sl,.int .i64 y.last] 37)).heap.size) := HB3.out.size
        have hMr : w.heap.size < (wr.alloc (.cells #[.slice na y.nodes.length nc,.slice ra y.reads.length rc,.int .i64 y.box.x0,.int .i64 y.box.y0,.int .i64 y.box.x1,.int .i64 y.box.y1,.int .i64 sl,.int .i64 y.last] 37)).heap.size := HM3.out.lt
        clear hmr
        go_wp2_with (first | (at_range; refine wpList_range_own _ rfl _ 54 rfl 3 3 keyInt Tryz.underlying54 _ w.heap.size c' _ rfl hown ?_; intro w0 hrg0 hg0 hs0) | fail)
        try go_frame
        have HB0 : Hid (Below w.heap.size w w0) := HB3.out.trans ⟨hg0.os,hg0.tape,hg0.output,hg0.size,fun j hj => hg0.block j (by have := HBW.out; omega) (by simp)⟩
        have HRB0 : w.heap.size ≤ (wr.alloc (.cells #[.slice na y.nodes.length nc,.slice ra y.reads.length rc,.int .i64 y.box.x0,.int .i64 y.box.y0,.int .i64 y.box.x1,.int .i64 y.box.y1,.int .i64 sl,.int .i64 y.last] 37)).heap.size := HBW.out
        rw [size_alloc] at hrg0 hMr HRB0
        generalize wr.heap.size + 1 = RB at hrg0 hMr HRB0 ⊢
        have HRB : Hid (w.heap.size ≤ RB) := HRB0
        clear HRB0
        go_loopw [7] (fun nv wr' => ∃ (left : Lit → Bool) (ct : Nat) (nn : Int),nv = .int .i64 nn ∧ Hid (nn = leftS al p.ps N k left) ∧ Hid (∀ kl,left kl = true → Go.Maps.has D kl = true) ∧ Hid (wr'.ranges Tryz.prog 3 (plainElem Tryz.prog 3) w.heap.size RB c' D left ct) ∧ Hid (Below w.heap.size w wr')) (fun _ wr' => wr'.rangeLeft w.heap.size RB)
        case atStart =>
          refine ⟨_,_,0,rfl,?_,?_,hrg0,HB0⟩
          · have : leftS al p.ps N k (Go.Maps.has D) = 0 := leftS_start fun r' hr' => HM3.out.has hr'
            exact this.symm
          · exact fun kl h => h
        case round =>
          rename World => wr2
          obtain ⟨left,ct,nn,rfl,hnn,hsub,hrg,hbw2⟩ := hrel
          have hnb := leftS_bd al p.ps k left HN.out
          rw [← hnn.out] at hnb
          have HRG : Hid (wr2.ranges Tryz.prog 3 (plainElem Tryz.prog 3) w.heap.size RB c' D left ct) := hrg.out
          clear hrg0 hown hg0 hs0
          go_wp2_with (first | (at_next; refine wpList_next_ranges_ii _ rfl _ rfl 3 3 .i64 .i64 keyInt Tryz.underlying3 Tryz.underlying3 w.heap.size RB c' _ _ _ rfl hrg.out ?_ ?_) | fail)
          · intro hc0 hl0
            have HMD2 : Hid (MapD wr2 w.heap.size N (k + 1) D (owK p.ps (k + 1))) := ⟨c',hc',hrg.out.owns,HMR.out⟩
            have HMK : Hid (max mo nn = mostK al p.ps N (k + 1)) := by
              have : max mo nn = mostK al p.ps N (k + 1) := by
                rw [hmo.out,hnn.out,leftS_end hl0]; rfl
              exact this
            clear hrg HRG hc0 hl0 hsub hnb
            go_wp2_with fail
            go_roundw
            case rel => exact ⟨k + 1,by omega,by go_num,max mo nn,by go_num,HMK,_,HMD2,hbw2⟩
            case measure => simp [intOf]; omega
          · intro x v w1 cnt1 hwx hwv hlx hat hrg1 hlt hg1 hs1 hen
            obtain ⟨r',hr',rfl,i,hi,rfl⟩ := HM3.out.entry (hsub.out _ hlx) hat
            have hik := owK_lt hi
            have HB1 : Hid (Below w.heap.size w w1) := hbw2.out.trans ⟨hg1.os,hg1.tape,hg1.output,hg1.size,fun j hj => hg1.block j (by have := hbw2.out.size; omega) (by have := HRB.out; simp; omega)⟩
            have hil : i < p.ps.length := by have := HPE.out; omega
            obtain ⟨v,hv⟩ : ∃ v,v = p.ps.getD i Ps.none := ⟨_,rfl⟩
            have hvm : v ∈ p.ps := by rw [hv]; exact getD_mem _ hil
            have HQ5 : Hid (QM B q m nv nds out want c (.slice (some ⟨b,o,none⟩) p.ps.length cap) p w1) := HQ.out.call HB1.out
            obtain ⟨b',o',na',nc',ra',rc',hv',hbB',hpc',hs1',hs2'⟩ := HQ5.out.gp.at hil hv
            simp only [Option.some.injEq,Addr.mk.injEq,and_true] at hv'
            obtain ⟨rfl,rfl⟩ := hv'
            obtain ⟨l0,l1,l2,l3,l4,l5,l6,l7⟩ := hpc'
            have s7 := HQ5.out.box.cell 7 rfl
            have s11 := HQ5.out.box.cell 11 rfl
            rw [← HAL.out] at s7
            rw [← HPE.out] at s11
            obtain ⟨z,hz⟩ : ∃ z,z = szP v := ⟨_,rfl⟩
            obtain ⟨la,hla⟩ : ∃ z,z = v.last := ⟨_,rfl⟩
            rw [← hla] at l7
            have hsz := fun W => qsize_c na' v.nodes.length nc' ra' v.reads.length rc' v W (HOK.out v hvm).2.2.2
            unfold pvl at hsz
            rw [← hla,← hz] at hsz
            have HSZ : Hid _ := hsz
            have hzb : 0 ≤ z ∧ z ≤ 1099511627776 := by rw [hz]; exact sz_bd _
            have HCN : Hid (cnt al p.ps k i = if al = false ∨ (k : Int) ≤ la then z else 0) := by
              have : cnt al p.ps k i = if al = false ∨ (k : Int) ≤ la then z else 0 := by unfold cnt; rw [← hv,← hla,← hz]
              exact this
            have hi0 : (0 : Int) ≤ (i : Int) := by omega
            have hi1 : (i : Int) < (P : Int) := by omega
            have HST : Hid (leftS al p.ps N k (fun z => left z && !z.sameKey (.int .i64 (r' : Nat))) = nn + cnt al p.ps k i) := by
              have : leftS al p.ps N k (fun z => left z && !z.sameKey (.int .i64 (r' : Nat))) = nn + cnt al p.ps k i := by rw [hnn.out]; exact leftS_step hr' hlx hi
              exact this
            have HSU : Hid (∀ kl,(fun z => left z && !z.sameKey (.int .i64 (r' : Nat))) kl = true → Go.Maps.has D kl = true) := fun kl h => hsub.out kl (by
              have h' : (left kl && !kl.sameKey (.int .i64 (r' : Nat))) = true := h
              rw [Bool.and_eq_true] at h'
              exact h'.1)
            have HRG1 : Hid (w1.ranges Tryz.prog 3 (plainElem Tryz.prog 3) w.heap.size RB c' D (fun z => left z && !z.sameKey (.int .i64 (r' : Nat))) cnt1) := hrg1
            have HLT : Hid (cnt1 < ct) := hlt
            clear hrg hrg1 hlt hwx hwv hlx hat hg1 hs1 hs1' hs2' hv hvm hz hla hil hik hi hr' hsz hbB' hsub
            cases al with
            | false =>
              have HCZ : Hid (cnt false p.ps k i = z) := by
                have : cnt false p.ps k i = z := by rw [HCN.out,if_pos (.inl rfl)]
                exact this
              go_wp2_with fail
              refine (HSZ.out _).mono ?_; rintro e w7 ⟨rfl,hb7⟩
              have HB7 : Hid (Below w.heap.size w w7) := HB1.out.trans (hb7.mono HB1.out.size)
              have HRG7 : Hid (w7.ranges Tryz.prog 3 (plainElem Tryz.prog 3) w.heap.size RB c' D (fun z => left z && !z.sameKey (.int .i64 (r' : Nat))) cnt1) := World.ranges.kept HRG1.out (grown_below hb7) (by simp) (by simp)
              have HNN : Hid (nn + z = leftS false p.ps N k (fun z => left z && !z.sameKey (.int .i64 (r' : Nat)))) := by
                have : nn + z = leftS false p.ps N k (fun z => left z && !z.sameKey (.int .i64 (r' : Nat))) := by rw [HST.out,HCZ.out]
                exact this
              have HME : Hid (w7.rangeLeft w.heap.size RB < wr2.rangeLeft w.heap.size RB) := by
                have : w7.rangeLeft w.heap.size RB < wr2.rangeLeft w.heap.size RB := by rw [World.ranges.left_eq HRG7.out,World.ranges.left_eq HRG.out]; exact HLT.out
                exact this
              clear hb7
              go_wp2_with fail
              go_roundw
              case rel => exact ⟨_,cnt1,nn + z,by go_num,HNN,HSU,HRG7,HB7⟩
              case measure => exact HME.out
            | true =>
              by_cases hla : (k : Int) ≤ la
              · have hld : decide ((k : Int) ≤ la) = true := decide_eq_true hla
                have HCZ : Hid (cnt true p.ps k i = z) := by
                  have : cnt true p.ps k i = z := by rw [HCN.out,if_pos (.inr hla)]
                  exact this
                clear hla
                go_wp2_with fail
                refine (HSZ.out _).mono ?_; rintro e w7 ⟨rfl,hb7⟩
                have HB7 : Hid (Below w.heap.size w w7) := HB1.out.trans (hb7.mono HB1.out.size)
                have HRG7 : Hid (w7.ranges Tryz.prog 3 (plainElem Tryz.prog 3) w.heap.size RB c' D (fun z => left z && !z.sameKey (.int .i64 (r' : Nat))) cnt1) := World.ranges.kept HRG1.out (grown_below hb7) (by simp) (by simp)
                have HNN : Hid (nn + z = leftS true p.ps N k (fun z => left z && !z.sameKey (.int .i64 (r' : Nat)))) := by
                  have : nn + z = leftS true p.ps N k (fun z => left z && !z.sameKey (.int .i64 (r' : Nat))) := by rw [HST.out,HCZ.out]
                  exact this
                have HME : Hid (w7.rangeLeft w.heap.size RB < wr2.rangeLeft w.heap.size RB) := by
                  have : w7.rangeLeft w.heap.size RB < wr2.rangeLeft w.heap.size RB := by rw [World.ranges.left_eq HRG7.out,World.ranges.left_eq HRG.out]; exact HLT.out
                  exact this
                clear hb7
                go_wp2_with fail
                go_roundw
                case rel => exact ⟨_,cnt1,nn + z,by go_num,HNN,HSU,HRG7,HB7⟩
                case measure => exact HME.out
              · have hld : decide ((k : Int) ≤ la) = false := decide_eq_false hla
                have HNN : Hid (nn = leftS true p.ps N k (fun z => left z && !z.sameKey (.int .i64 (r' : Nat)))) := by
                  have : nn = leftS true p.ps N k (fun z => left z && !z.sameKey (.int .i64 (r' : Nat))) := by rw [HST.out,HCN.out,if_neg (by simp; omega)]; omega
                  exact this
                have HME : Hid (w1.rangeLeft w.heap.size RB < wr2.rangeLeft w.heap.size RB) := by
                  have : w1.rangeLeft w.heap.size RB < wr2.rangeLeft w.heap.size RB := by rw [World.ranges.left_eq HRG1.out,World.ranges.left_eq HRG.out]; exact HLT.out
                  exact this
                clear hla
                go_wp2_with fail
                go_roundw
                case rel => exact ⟨_,cnt1,nn,rfl,HNN,HSU,HRG1,HB1⟩
                case measure => exact HME.out
    · have ei : k = P := by omega
      subst ei
      have HE : Hid (decide (mo = pk) = R) := by
        have : decide (mo = pk) = R := by rw [HR.out,hmo.out,HPE.out]
        exact this
      have HQ9 : Hid (QM B q m nv nds out want c (.slice a p.ps.length cap) p wr) := HQ.out.call hbw.out
      have s17 := HQ9.out.box.cell 17 rfl
      rw [← HPK.out] at s17
      go_wp2_with fail
      go_ret
      exact ⟨ret_b HE.out,hbw.out⟩
end Go.Proofs.YtaoamkbcegadcaaGreatDoor
