/- Texts joined: XZy. -/
import Derived.Test.YtaoamkbcegadcaaGreatDoorZx
import Derived.Test.YtaoamkbcegadcaaGreatDoorZw
set_option maxRecDepth 4000
/- The walk of 'ProofSpoilt'. (Printed.) -/
namespace Go.Proofs.YtaoamkbcegadcaaGreatDoor
open Go.RowKit Go.Bx Go.Od Go.Hp
attribute [local go_sem ↓] Go.wp_at_zero Go.wp_at_succ
set_option linter.unusedVariables false

theorem planN_pos {nds : List Nd} {out : Int} {want : Rc} {c : Cf} (h : PlOk nds out want) {p : Pn} (hp : p = planN nds out c want) : 0 < p.ps.length := by
  subst hp
  have ha : Alk (pss nds out c want) (plS nds out c want).ps := stN_alk _
  have hl : (pss nds out c want).length = (grp nds out c.fuse).length := pss_len
  obtain ⟨r,hr,_⟩ := h.sg.toGood.has_out (on := c.fuse)
  show 0 < (plS nds out c want).ps.length
  rw [ha.1,hl]
  omega
theorem planN_le {nds : List Nd} {out : Int} {want : Rc} {c : Cf} (h : PlOk nds out want) {p : Pn} (hp : p = planN nds out c want) : p.ps.length ≤ nds.length := by
  subst hp
  exact plS_le h
theorem planN_pk {nds : List Nd} {out : Int} {want : Rc} {c : Cf} (h : PlOk nds out want) {p : Pn} (hp : p = planN nds out c want) : 0 ≤ p.pk ∧ p.pk ≤ 109951162777600 := by
  subst hp
  have hl : (pss nds out c want).length = (grp nds out c.fuse).length := pss_len
  have h1 := grp_le h.sg.toGood (on := c.fuse)
  exact (stN_ok nds c (pss nds out c want) (by omega) _ (Nat.le_refl _)).pk
theorem less_chk {nds : List Nd} {out : Int} {want : Rc} {c : Cf} (h : PlOk nds out want) {p : Pn} (hp : p = planN nds out c want) : chkP nds out want c ⟨p.ps,p.src,p.sn,p.pk - 1⟩ = false := by
  subst hp
  have e := less_false h (c := c) (src := srcO nds out c want)
  unfold chkP
  dsimp only [planN]
  rw [Int.toNat_natCast,e]
  simp
theorem out_chk {nds : List Nd} {out : Int} {want : Rc} {c : Cf} (h : PlOk nds out want) {p : Pn} (hp : p = planN nds out c want) {k : Nat} (hk : k < p.ps.length) {src : Rc} {sn pk : Int} : chkP nds out want c ⟨p.ps.take k ++ p.ps.drop (k + 1),src,sn,pk⟩ = false := by
  subst hp
  unfold chkP
  rw [show ck1 nds out ((planN nds out c want).ps.take k ++ (planN nds out c want).ps.drop (k + 1)) = false from out_false h hk]
  rfl
theorem twice_chk {nds : List Nd} {out : Int} {want : Rc} {c : Cf} (h : PlOk nds out want) {p : Pn} (hp : p = planN nds out c want) {k : Nat} (hk : k < p.ps.length) {src : Rc} {sn pk : Int} : chkP nds out want c ⟨p.ps ++ [p.ps.getD k Ps.none],src,sn,pk⟩ = false := by
  subst hp
  unfold chkP
  rw [show ck1 nds out ((planN nds out c want).ps ++ [(planN nds out c want).ps.getD k Ps.none]) = false from twice_false h hk]
  rfl
theorem stN_small {nds : List Nd} {c : Cf} {ps : List Ps} {i : Nat} (hz : szP (ps.getD i Ps.none) = 0) : ∀ k,((stN nds c ps k).ps.getD i Ps.none).slot = (ps.getD i Ps.none).slot
  | 0 => rfl
  | k + 1 => by
    rw [stN_succ]
    by_cases e : i = k
    · subst e
      have ha : Alk ps (stN nds c ps i).ps := stN_alk i
      rw [stepA_eq]
      unfold psM
      dsimp only
      rw [if_neg (by rw [ha.szP,hz]; omega)]
      exact stN_small hz i
    · rw [stepA_slot e]
      exact stN_small hz k
theorem same_chk {nds : List Nd} {out : Int} {want : Rc} {c : Cf} (h : PlOk nds out want) {p : Pn} (hp : p = planN nds out c want) {i k : Nat} (hik : i < k) (hk : k < p.ps.length) (hl : (k : Int) < (p.ps.getD i Ps.none).last) (hs : 0 ≤ (p.ps.getD k Ps.none).slot) {src : Rc} {sn pk : Int} :
    chkP nds out want c ⟨p.ps.set k { p.ps.getD k Ps.none with slot := (p.ps.getD i Ps.none).slot },src,sn,pk⟩ = false := by
  subst hp
  have hsz : szP ((plS nds out c want).ps.getD k Ps.none) ≠ 0 := fun hz => by
    have ha : Alk (pss nds out c want) (plS nds out c want).ps := stN_alk _
    have hpl : (pss nds out c want).length = (grp nds out c.fuse).length := pss_len
    have hk' : k < (plS nds out c want).ps.length := hk
    rw [ha.szP] at hz
    have h1 := stN_small (nds := nds) (c := c) hz (pss nds out c want).length
    have h2 := (pss_all (nds := nds) (out := out) (want := want) (c := c) (i := k) (by rw [ha.1] at hk'; omega)).1
    have h3 : ((plS nds out c want).ps.getD k Ps.none).slot = -1 := h1.trans h2
    have h4 : 0 ≤ ((plS nds out c want).ps.getD k Ps.none).slot := hs
    omega
  have e := same_false h (c := c) (src := src) (sn := sn) (pk := pk) hik hk hl hs hsz
  unfold chkP
  dsimp only [planN] at e ⊢
  rw [e]
  simp
def R9 (n C : Nat) (L1 L2 : List (Value × Value × Ps)) (i : Nat) (v : Value) (W : World) : Prop := match i with
  | 0 => ∃ g,v = .slice (some ⟨g,0,none⟩) 0 0
  | 5 => EP n C L1 v W
  | 11 => EP n C (L1 ++ L2) v W
  | _ => True
theorem R9.stab {n C : Nat} {L1 L2 : List (Value × Value × Ps)} (i : Nat) (v : Value) (W W' : World) (h : R9 n C L1 L2 i v W) (hb : Below W.heap.size W W') : R9 n C L1 L2 i v W' := by
  unfold R9 at h ⊢
  split at h
  · exact h
  · exact h.call hb
  · exact h.call hb
  · trivial
def R11 (n C : Nat) (L : List (Value × Value × Ps)) (x : Value × Value × Ps) (i : Nat) (v : Value) (W : World) : Prop := match i with
  | 0 => ∃ g,v = .slice (some ⟨g,0,none⟩) 0 0
  | 3 => EP n C L v W
  | 9 => ∃ g,v = .slice (some ⟨g,0,none⟩) 1 1 ∧ g < W.heap.size ∧ W.heap[g]? = some (.cells (pcl x.1 x.2.1 x.2.2).toArray 37 (0,0))
  | 10 => EP n C (L ++ [x]) v W
  | _ => True
theorem R11.stab {n C : Nat} {L : List (Value × Value × Ps)} {x : Value × Value × Ps} (i : Nat) (v : Value) (W W' : World) (h : R11 n C L x i v W) (hb : Below W.heap.size W W') : R11 n C L x i v W' := by
  unfold R11 at h ⊢
  split at h
  · exact h
  · exact h.call hb
  · obtain ⟨g,h1,h2,h3⟩ := h
    exact ⟨g,h1,Nat.lt_of_lt_of_le h2 hb.size,(hb.block g h2).trans h3⟩
  · exact h.call hb
  · trivial
set_option maxRecDepth 10000 in
set_option maxHeartbeats 12800000 in
theorem proofSpoilt_walk (nv : Value) (nds : List Nd) (out : Int) (want : Rc) (c : Cf) (a8 : Nat) (ha8 : a8 < 256) (w : World) (ht : Tabs w) (hg : Gr w.heap.size w nv nds) :
    Calls Tryz.prog 3 #[.agg #[nv,.int .i64 out],rv want,cfv c,.int .u8 (a8 : Int)] w (TPost w) := by
  have HG : Hid (Gr w.heap.size w nv nds ∧ Tabs w) := ⟨hg,ht⟩
  obtain ⟨ga,gc,rfl⟩ := hg.isSl
  have hgl := hg.len_le
  obtain ⟨x0,y0,x1,y1⟩ := want
  obtain ⟨fu,al,ro,da,rm⟩ := c
  clear hg ht
  have H1 : Hid (CB w (((w.alloc (.cells #[.slice ga nds.length gc,.int .i64 out] 24)).alloc (.cells (cs4 x0 y0 x1 y1) 26)).alloc (.cells #[.bool fu,.bool al,.bool ro,.bool da,.int .i64 rm] 28)) (.slice ga nds.length gc) (.int .i64 out) ⟨x0,y0,x1,y1⟩ ⟨fu,al,ro,da,rm⟩) := CB.new w _ _ ⟨x0,y0,x1,y1⟩ ⟨fu,al,ro,da,rm⟩ _ _
  go_enter Tryz.func3,Tryz.ntmps3
  go_wp2_with fail
  generalize (((w.alloc (.cells #[.slice ga nds.length gc,.int .i64 out] 24)).alloc (.cells (cs4 x0 y0 x1 y1) 26)).alloc (.cells #[.bool fu,.bool al,.bool ro,.bool da,.int .i64 rm] 28)) = W1 at *
  refine (awake20_c W1).mono ?_; rintro e w2 ⟨rfl,hb2⟩
  have H2 : Hid (CB w w2 (.slice ga nds.length gc) (.int .i64 out) ⟨x0,y0,x1,y1⟩ ⟨fu,al,ro,da,rm⟩) := H1.out.call hb2
  clear hb2 H1
  have g0 := H2.out.1.cell 0 rfl
  have g1 := H2.out.1.cell 1 rfl
  obtain ⟨r0,r1,r2,r3⟩ := box4 H2.out.2.1
  go_wp2_with fail
  refine (right19_c w.heap.size _ nds out ⟨x0,y0,x1,y1⟩ w2 (HG.out.2.below H2.out.2.2.2) (HG.out.1.below H2.out.2.2.2 (Nat.le_refl _)) H2.out.2.2.2.size).mono ?_; rintro e w3 ⟨rfl,hb3⟩
  have H3 : Hid (CB w w3 (.slice ga nds.length gc) (.int .i64 out) ⟨x0,y0,x1,y1⟩ ⟨fu,al,ro,da,rm⟩) := H2.out.call hb3
  clear g0 g1 r0 r1 r2 r3 hb3 H2
  obtain ⟨r,hr⟩ : ∃ r,r = rightP nds out ⟨x0,y0,x1,y1⟩ := ⟨_,rfl⟩
  rw [← hr]
  cases r with
  | false =>
    clear hr
    go_wp2_with fail
    refine (awake20_c w3).mono ?_; rintro e w4 ⟨rfl,hb4⟩
    have HE : Hid (Below w.heap.size w w4) := H3.out.2.2.2.trans (hb4.mono H3.out.2.2.2.size)
    clear H3 hb4
    go_wp2_with fail
    go_ret
    exact ⟨rfl,HE.out⟩
  | true =>
  have HP : Hid (PlOk nds out ⟨x0,y0,x1,y1⟩ ∧ nds.length ≤ 12) := ⟨plOk_of hr.symm,few12_of hr.symm⟩
  clear hr
  have g0 := H3.out.1.cell 0 rfl
  have g1 := H3.out.1.cell 1 rfl
  obtain ⟨r0,r1,r2,r3⟩ := box4 H3.out.2.1
  obtain ⟨m0,m1,m2,m3,m4,mf⟩ := H3.out.conf
  have hmk := makeG_c w.heap.size _ nds out ⟨x0,y0,x1,y1⟩ ⟨fu,al,ro,da,rm⟩ w3 HP.out.1 (HG.out.1.below H3.out.2.2.2 (Nat.le_refl _)) H3.out.2.2.2.size
  obtain ⟨p,hp⟩ : ∃ p,p = planN nds out ⟨fu,al,ro,da,rm⟩ ⟨x0,y0,x1,y1⟩ := ⟨_,rfl⟩
  rw [← hp] at hmk
  obtain ⟨ps,⟨s0,s1,s2,s3⟩,sn,pk⟩ := p
  have HPN : Hid ((⟨ps,⟨s0,s1,s2,s3⟩,sn,pk⟩ : Pn) = planN nds out ⟨fu,al,ro,da,rm⟩ ⟨x0,y0,x1,y1⟩) := hp
  clear hp
  go_wp2_with fail
  with_reducible refine hmk.mono ?_
  rintro e w5 ⟨pa,pc,rfl,hgp,hpc1,hpc2,hb5⟩
  unfold maxLen at hpc2
  dsimp only at hgp hpc1
  obtain ⟨P,hP⟩ : ∃ P,P = ps.length := ⟨_,rfl⟩
  have HPL : Hid (P = ps.length) := hP
  unfold pnv
  dsimp only
  rw [← hP] at hgp hpc1 ⊢
  obtain ⟨n,hn⟩ : ∃ n,n = w5.heap.size := ⟨_,rfl⟩
  have HCF : Hid (w.heap.size + 1 + 1 < n) := by
    have h := (H3.out.call hb5).2.2.1.lt
    rw [hn]
    exact h
  have HS5 : Hid (PS w (.slice ga nds.length gc) (.int .i64 out) ⟨x0,y0,x1,y1⟩ ⟨fu,al,ro,da,rm⟩ n n [.slice pa P pc,.int .i64 s0,.int .i64 s1,.int .i64 s2,.int .i64 s3,.int .i64 sn,.int .i64 pk] (.slice pa P pc) ps (w5.alloc (.cells #[.slice pa P pc,.int .i64 s0,.int .i64 s1,.int .i64 s2,.int .i64 s3,.int .i64 sn,.int .i64 pk] 33)) ∧ w.heap.size ≤ n) := by
    have hbn := below_new w5 (.cells #[.slice pa P pc,.int .i64 s0,.int .i64 s1,.int .i64 s2,.int .i64 s3,.int .i64 sn,.int .i64 pk] 33)
    have h5 := H3.out.call hb5
    rw [hn]
    exact ⟨⟨h5.call hbn,TB.new w5 _ _,hgp.below hbn (Nat.le_refl _),hbn.size⟩,h5.2.2.2.size⟩
  clear g0 g1 r0 r1 r2 r3 m0 m1 m2 m3 m4 mf hmk hgp hb5 H3 hP
  have HPF : Hid (ps.length ≤ 1000) := (chN HP.out.1 HP.out.2 HPN.out).few
  have hPf : P ≤ 12 := by
    have h1 := planN_le HP.out.1 HPN.out
    have h2 := HP.out.2
    have h3 := HPL.out
    dsimp only at h1
    omega
  have hP0 : 0 < P := by rw [HPL.out]; exact planN_pos HP.out.1 HPN.out
  have hpk := planN_pk HP.out.1 HPN.out
  dsimp only at hpk
  have HCN : Hid (w.heap.size + 1 + 1 < n) := HCF.out
  go_wp2_with fail
  obtain ⟨k,hk,hkP⟩ : ∃ k : Nat,(k : Int) = (a8 : Int) % (P : Int) ∧ k < P := ⟨a8 % P,by simp,Nat.mod_lt _ hP0⟩
  rw [← hk]
  have hszr : (((w5.alloc (.cells #[.slice pa P pc,.int .i64 s0,.int .i64 s1,.int .i64 s2,.int .i64 s3,.int .i64 sn,.int .i64 pk] 33)).alloc (.cells #[.slice pa P pc,.int .i64 s0,.int .i64 s1,.int .i64 s2,.int .i64 s3,.int .i64 sn,.int .i64 (pk - 1)] 33)).alloc (.cells #[.slice pa P pc,.int .i64 s0,.int .i64 s1,.int .i64 s2,.int .i64 s3,.int .i64 sn,.int .i64 pk] 33)).heap.size = w5.heap.size + 1 + 1 + 1 := by simp only [size_alloc]
  have HS9 : Hid (PS w (.slice ga nds.length gc) (.int .i64 out) ⟨x0,y0,x1,y1⟩ ⟨fu,al,ro,da,rm⟩ n n [.slice pa P pc,.int .i64 s0,.int .i64 s1,.int .i64 s2,.int .i64 s3,.int .i64 sn,.int .i64 pk] (.slice pa P pc) ps (((w5.alloc (.cells #[.slice pa P pc,.int .i64 s0,.int .i64 s1,.int .i64 s2,.int .i64 s3,.int .i64 sn,.int .i64 pk] 33)).alloc (.cells #[.slice pa P pc,.int .i64 s0,.int .i64 s1,.int .i64 s2,.int .i64 s3,.int .i64 sn,.int .i64 (pk - 1)] 33)).alloc (.cells #[.slice pa P pc,.int .i64 s0,.int .i64 s1,.int .i64 s2,.int .i64 s3,.int .i64 sn,.int .i64 pk] 33)) ∧ TB (((w5.alloc (.cells #[.slice pa P pc,.int .i64 s0,.int .i64 s1,.int .i64 s2,.int .i64 s3,.int .i64 sn,.int .i64 pk] 33)).alloc (.cells #[.slice pa P pc,.int .i64 s0,.int .i64 s1,.int .i64 s2,.int .i64 s3,.int .i64 sn,.int .i64 (pk - 1)] 33)).alloc (.cells #[.slice pa P pc,.int .i64 s0,.int .i64 s1,.int .i64 s2,.int .i64 s3,.int .i64 sn,.int .i64 pk] 33)) (n + 1) [.slice pa P pc,.int .i64 s0,.int .i64 s1,.int .i64 s2,.int .i64 s3,.int .i64 sn,.int .i64 (pk - 1)] 33 ∧ TB (((w5.alloc (.cells #[.slice pa P pc,.int .i64 s0,.int .i64 s1,.int .i64 s2,.int .i64 s3,.int .i64 sn,.int .i64 pk] 33)).alloc (.cells #[.slice pa P pc,.int .i64 s0,.int .i64 s1,.int .i64 s2,.int .i64 s3,.int .i64 sn,.int .i64 (pk - 1)] 33)).alloc (.cells #[.slice pa P pc,.int .i64 s0,.int .i64 s1,.int .i64 s2,.int .i64 s3,.int .i64 sn,.int .i64 pk] 33)) (n + 1 + 1) [.slice pa P pc,.int .i64 s0,.int .i64 s1,.int .i64 s2,.int .i64 s3,.int .i64 sn,.int .i64 pk] 33 ∧ (((w5.alloc (.cells #[.slice pa P pc,.int .i64 s0,.int .i64 s1,.int .i64 s2,.int .i64 s3,.int .i64 sn,.int .i64 pk] 33)).alloc (.cells #[.slice pa P pc,.int .i64 s0,.int .i64 s1,.int .i64 s2,.int .i64 s3,.int .i64 sn,.int .i64 (pk - 1)] 33)).alloc (.cells #[.slice pa P pc,.int .i64 s0,.int .i64 s1,.int .i64 s2,.int .i64 s3,.int .i64 sn,.int .i64 pk] 33)).heap.size = n + 1 + 1 + 1) := by
    have b1 := below_new (w5.alloc (.cells #[.slice pa P pc,.int .i64 s0,.int .i64 s1,.int .i64 s2,.int .i64 s3,.int .i64 sn,.int .i64 pk] 33)) (.cells #[.slice pa P pc,.int .i64 s0,.int .i64 s1,.int .i64 s2,.int .i64 s3,.int .i64 sn,.int .i64 (pk - 1)] 33)
    have b2 := below_new ((w5.alloc (.cells #[.slice pa P pc,.int .i64 s0,.int .i64 s1,.int .i64 s2,.int .i64 s3,.int .i64 sn,.int .i64 pk] 33)).alloc (.cells #[.slice pa P pc,.int .i64 s0,.int .i64 s1,.int .i64 s2,.int .i64 s3,.int .i64 sn,.int .i64 (pk - 1)] 33)) (.cells #[.slice pa P pc,.int .i64 s0,.int .i64 s1,.int .i64 s2,.int .i64 s3,.int .i64 sn,.int .i64 pk] 33)
    have t1 := TB.new (w5.alloc (.cells #[.slice pa P pc,.int .i64 s0,.int .i64 s1,.int .i64 s2,.int .i64 s3,.int .i64 sn,.int .i64 pk] 33)) [.slice pa P pc,.int .i64 s0,.int .i64 s1,.int .i64 s2,.int .i64 s3,.int .i64 sn,.int .i64 (pk - 1)] 33
    have t2 := TB.new ((w5.alloc (.cells #[.slice pa P pc,.int .i64 s0,.int .i64 s1,.int .i64 s2,.int .i64 s3,.int .i64 sn,.int .i64 pk] 33)).alloc (.cells #[.slice pa P pc,.int .i64 s0,.int .i64 s1,.int .i64 s2,.int .i64 s3,.int .i64 sn,.int .i64 (pk - 1)] 33)) [.slice pa P pc,.int .i64 s0,.int .i64 s1,.int .i64 s2,.int .i64 s3,.int .i64 sn,.int .i64 pk] 33
    simp only [size_alloc] at t1 t2
    rw [← hn] at t1 t2 hszr
    exact ⟨(HS5.out.1.call b1).call b2,t1.call b2,t2,hszr⟩
  rw [← hn]
  generalize (((w5.alloc (.cells #[.slice pa P pc,.int .i64 s0,.int .i64 s1,.int .i64 s2,.int .i64 s3,.int .i64 sn,.int .i64 pk] 33)).alloc (.cells #[.slice pa P pc,.int .i64 s0,.int .i64 s1,.int .i64 s2,.int .i64 s3,.int .i64 sn,.int .i64 (pk - 1)] 33)).alloc (.cells #[.slice pa P pc,.int .i64 s0,.int .i64 s1,.int .i64 s2,.int .i64 s3,.int .i64 sn,.int .i64 pk] 33)) = Wr at *
  have HNW : Hid (w.heap.size ≤ n) := HS5.out.2
  clear HS5 hn hk hszr
  clear w5
  obtain ⟨b,o,L0,rfl,hbn,hL0,hrow⟩ := HS9.out.1.2.2.1.row (by rw [← HPL.out]; exact hP0)
  have HRW : Hid (RowP n L0 b o Wr ∧ psl L0 = ps ∧ b < n) := ⟨hrow,hL0,hbn⟩
  have hLP : L0.length = P := by rw [← psl_len,hL0,HPL.out]
  have HLP : Hid (L0.length = P) := hLP
  obtain ⟨C9,hC9⟩ : ∃ C,C = Wr.heap.size := ⟨_,rfl⟩
  have HC9 : Hid (C9 = Wr.heap.size) := hC9
  have HNC : Hid (n + 1 + 1 + 1 = C9) := by
    have : n + 1 + 1 + 1 = C9 := by rw [hC9]; exact HS9.out.2.2.2.symm
    exact this
  have hk0 : (0 : Int) ≤ (k : Int) := by omega
  have hk1 : (k : Int) ≤ (P : Int) := by omega
  have hk2 : (k : Int) < (P : Int) := by omega
  have hk3 : (k : Int) + 1 ≤ (P : Int) := by omega
  have hk4 : (0 : Int) ≤ (k : Int) + 1 := by omega
  have hkpc : (k : Int) ≤ (pc : Int) := by omega
  have hkw : IntKind.i64.wrap ((k : Int) + 1) = (k : Int) + 1 := by first | go_num | (simp [IntKind.wrap,IntKind.bits]; omega)
  obtain ⟨oz,hoz⟩ : ∃ z,z = if pc = k + 1 then o else o + (k + 1) * 8 := ⟨_,rfl⟩
  have hoz2 : (if pc = k + 1 then some (⟨b,o,none⟩ : Addr) else some ⟨b,o + (k + 1) * 8,none⟩) = some ⟨b,oz,none⟩ := by rw [hoz]; split <;> rfl
  have HDR : Hid (∀ W,Below C9 Wr W → SrcP n (L0.drop (k + 1)) (.slice (some ⟨b,oz,none⟩) (P - (k + 1)) (pc - (k + 1))) W) := fun W hW => by
    have h := (HRW.out.1.below (hW.mono (by have := HNC.out; omega)) HRW.out.2.2).drop (k := k + 1) (c := pc - (k + 1)) (by rw [HLP.out]; omega)
    rw [HLP.out] at h
    by_cases e : pc = k + 1
    · have hnil : L0.drop (k + 1) = [] := List.drop_eq_nil_of_le (by rw [HLP.out]; omega)
      obtain ⟨_,h2,h3⟩ := h
      have hz : P - (k + 1) = 0 := by omega
      exact ⟨⟨some ⟨b,oz,none⟩,pc - (k + 1),by rw [hnil,hz]; rfl,fun hm => absurd hnil hm⟩,h2,h3⟩
    · rw [if_neg e] at hoz
      rw [hoz]
      exact h
  clear hrow hL0 hLP hbn
  rename_i K hK
  refine wp_region_last (fun W => Below C9 Wr W ∧ C9 ≤ W.heap.size) (QT [undef,.pointer (some ⟨n,0,none⟩),.slice (some ⟨b,o,none⟩) P pc,.int .i64 k,.slice (some ⟨b,o,none⟩) k pc,undef,.pointer (some ⟨n,0,none⟩),.slice (some ⟨b,o,none⟩) P pc,.int .i64 k,.int .i64 ((k : Int) + 1),.slice (some ⟨b,oz,none⟩) (P - (k + 1)) (pc - (k + 1)),undef,.pointer (some ⟨n + 1 + 1,0,none⟩)] [0,5,11] (R9 n C9 (L0.take k) (L0.drop (k + 1)))) 13 _ rfl rfl (by kernel_rfl) (by kernel_rfl) ⟨(Below.refl _ _).drew,Nat.le_of_eq HC9.out⟩ ?hop ?hlast
  case hop =>
    refine Each.get (n := 13) ⟨⟨⟨⟨⟨⟨⟨⟨⟨⟨⟨⟨⟨trivial,?h0⟩,?h1⟩,?h2⟩,?h3⟩,?h4⟩,?h5⟩,?h6⟩,?h7⟩,?h8⟩,?h9⟩,?h10⟩,?h11⟩,?h12⟩
    case h0 =>
      refine OpIs.plain (by kernel_rfl) _ rfl rfl fun vs ev W hf hI hd => ?_
      clear hK
      refine gives_mono (R := fun v w' => v = .slice (some ⟨W.heap.size,0,none⟩) 0 0 ∧ w' = W.alloc (.cells #[] 37)) (by simp [gives,go_sem]) ?_
      rintro _ _ ⟨rfl,rfl⟩
      have hb := below_alloc W (.cells #[] 37)
      exact ⟨.inl ⟨by decide,_,rfl⟩,⟨hI.1.trans (hb.mono hI.2),Nat.le_trans hI.2 hb.size⟩,fun j u _ h => QT.stab R9.stab _ _ _ _ h hb⟩
    case h1 =>
      refine OpIs.plain (by kernel_rfl) _ rfl rfl fun vs ev W hf hI hd => ?_
      have e0 : ev (.tmp 9) = .pointer (some ⟨n,0,none⟩) := hf.off 9 rfl
      clear hK
      exact gives_pure (v := .pointer (some ⟨n,0,none⟩)) hI (by simp [gives,go_sem,e0]) (.inr ⟨by decide,rfl⟩)
    case h2 =>
      refine OpIs.plain (by kernel_rfl) _ rfl rfl fun vs ev W hf hI hd => ?_
      have e0 : ev (.tmp 44) = .pointer (some ⟨n,0,none⟩) := (hf.of 1 _ 44 rfl rfl rfl (of_decide_eq_true rfl)).trans ((hd 1 (by kernel_rfl)).val (by decide))
      have d0 := (HS9.out.1.2.1.keep (hI.1) (by have := HNC.out; omega)).box.cell 0 rfl
      clear hK
      exact gives_pure (v := .slice (some ⟨b,o,none⟩) P pc) hI (by simp [gives,go_sem,e0,d0]) (.inr ⟨by decide,rfl⟩)
    case h3 =>
      refine OpIs.plain (by kernel_rfl) _ rfl rfl fun vs ev W hf hI hd => ?_
      have e0 : ev (.tmp 11) = .int .i64 k := hf.off 11 rfl
      clear hK
      exact gives_pure (v := .int .i64 k) hI (by simp [gives,go_sem,e0]) (.inr ⟨by decide,rfl⟩)
    case h4 =>
      refine OpIs.plain (by kernel_rfl) _ rfl rfl fun vs ev W hf hI hd => ?_
      have e0 : ev (.tmp 45) = .slice (some ⟨b,o,none⟩) P pc := (hf.of 2 _ 45 rfl rfl rfl (of_decide_eq_true rfl)).trans ((hd 2 (by kernel_rfl)).val (by decide))
      have e1 : ev (.tmp 46) = .int .i64 k := (hf.of 3 _ 46 rfl rfl rfl (of_decide_eq_true rfl)).trans ((hd 3 (by kernel_rfl)).val (by decide))
      clear hK
      exact gives_pure (v := .slice (some ⟨b,o,none⟩) k pc) hI (by simp [gives,go_sem,e0,e1,hk0,hkpc]) (.inr ⟨by decide,rfl⟩)
    case h5 =>
      refine OpIs.plain (by kernel_rfl) _ rfl rfl fun vs ev W hf hI hd => ?_
      have hr0 := (hd 0 (by kernel_rfl)).spec (by decide)
      obtain ⟨g,hg⟩ := hr0
      have hE : EP n C9 [] (vs 0) W := .inl ⟨rfl,g,hg⟩
      have e0 : ev (.tmp 43) = vs 0 := hf.of 0 _ 43 rfl rfl rfl (of_decide_eq_true rfl)
      have e1 : ev (.tmp 47) = .slice (some ⟨b,o,none⟩) k pc := (hf.of 4 _ 47 rfl rfl rfl (of_decide_eq_true rfl)).trans ((hd 4 (by kernel_rfl)).val (by decide))
      have hsrc : SrcP n (L0.take k) (.slice (some ⟨b,o,none⟩) k pc) W := (HRW.out.1.below (hI.1.mono (by have := HNC.out; omega)) HRW.out.2.2).take (by rw [HLP.out]; omega)
      obtain ⟨v',W',hr,h1,h2,h3,h4⟩ := hE.append hsrc hI.2 (by have := HNC.out; omega) (by have := HLP.out; simp; omega)
      have hlow := h3.low hI.2
      clear hK
      obtain ⟨xa,xc,hx⟩ := hE.form
      obtain ⟨m1,hm1⟩ : ∃ m,m = List.length ([] : List (Value × Value × Ps)) := ⟨_,rfl⟩
      rw [← hm1] at hx
      rw [hx] at e0 hr h2
      refine gives_mono (R := fun v w' => v = v' ∧ w' = W') (by unfold gives; simp [execOp,resolve,invoke,builtin,e0,e1,hr,Result.andThen]) ?_
      rintro _ _ ⟨rfl,rfl⟩
      exact ⟨.inl ⟨by decide,h1⟩,⟨hI.1.trans hlow,Nat.le_trans hI.2 hlow.size⟩,fun j u _ h => QT.stab R9.stab _ _ _ _ h (h4 rfl)⟩
    case h6 =>
      refine OpIs.plain (by kernel_rfl) _ rfl rfl fun vs ev W hf hI hd => ?_
      have e0 : ev (.tmp 9) = .pointer (some ⟨n,0,none⟩) := hf.off 9 rfl
      clear hK
      exact gives_pure (v := .pointer (some ⟨n,0,none⟩)) hI (by simp [gives,go_sem,e0]) (.inr ⟨by decide,rfl⟩)
    case h7 =>
      refine OpIs.plain (by kernel_rfl) _ rfl rfl fun vs ev W hf hI hd => ?_
      have e0 : ev (.tmp 49) = .pointer (some ⟨n,0,none⟩) := (hf.of 6 _ 49 rfl rfl rfl (of_decide_eq_true rfl)).trans ((hd 6 (by kernel_rfl)).val (by decide))
      have d0 := (HS9.out.1.2.1.keep (hI.1) (by have := HNC.out; omega)).box.cell 0 rfl
      clear hK
      exact gives_pure (v := .slice (some ⟨b,o,none⟩) P pc) hI (by simp [gives,go_sem,e0,d0]) (.inr ⟨by decide,rfl⟩)
    case h8 =>
      refine OpIs.plain (by kernel_rfl) _ rfl rfl fun vs ev W hf hI hd => ?_
      have e0 : ev (.tmp 11) = .int .i64 k := hf.off 11 rfl
      clear hK
      exact gives_pure (v := .int .i64 k) hI (by simp [gives,go_sem,e0]) (.inr ⟨by decide,rfl⟩)
    case h9 =>
      refine OpIs.plain (by kernel_rfl) _ rfl rfl fun vs ev W hf hI hd => ?_
      have e0 : ev (.tmp 51) = .int .i64 k := (hf.of 8 _ 51 rfl rfl rfl (of_decide_eq_true rfl)).trans ((hd 8 (by kernel_rfl)).val (by decide))
      clear hK
      exact gives_pure (v := .int .i64 ((k : Int) + 1)) hI (by simp [gives,go_sem,e0,hf.const,hkw]) (.inr ⟨by decide,rfl⟩)
    case h10 =>
      refine OpIs.plain (by kernel_rfl) _ rfl rfl fun vs ev W hf hI hd => ?_
      have e0 : ev (.tmp 50) = .slice (some ⟨b,o,none⟩) P pc := (hf.of 7 _ 50 rfl rfl rfl (of_decide_eq_true rfl)).trans ((hd 7 (by kernel_rfl)).val (by decide))
      have e1 : ev (.tmp 52) = .int .i64 ((k : Int) + 1) := (hf.of 9 _ 52 rfl rfl rfl (of_decide_eq_true rfl)).trans ((hd 9 (by kernel_rfl)).val (by decide))
      clear hK
      exact gives_pure (v := .slice (some ⟨b,oz,none⟩) (P - (k + 1)) (pc - (k + 1))) hI (by simp [gives,go_sem,e0,e1,hk3,hk4,hoz2]) (.inr ⟨by decide,rfl⟩)
    case h11 =>
      refine OpIs.plain (by kernel_rfl) _ rfl rfl fun vs ev W hf hI hd => ?_
      have hr0 := (hd 5 (by kernel_rfl)).spec (by decide)
      have hE : EP n C9 (L0.take k) (vs 5) W := hr0
      have e0 : ev (.tmp 48) = vs 5 := hf.of 5 _ 48 rfl rfl rfl (of_decide_eq_true rfl)
      have e1 : ev (.tmp 53) = .slice (some ⟨b,oz,none⟩) (P - (k + 1)) (pc - (k + 1)) := (hf.of 10 _ 53 rfl rfl rfl (of_decide_eq_true rfl)).trans ((hd 10 (by kernel_rfl)).val (by decide))
      have hsrc : SrcP n (L0.drop (k + 1)) (.slice (some ⟨b,oz,none⟩) (P - (k + 1)) (pc - (k + 1))) W := HDR.out W hI.1
      obtain ⟨v',W',hr,h1,h2,h3,h4⟩ := hE.append hsrc hI.2 (by have := HNC.out; omega) (by have := HLP.out; simp; omega)
      have hlow := h3.low hI.2
      clear hK
      obtain ⟨xa,xc,hx⟩ := hE.form
      obtain ⟨m1,hm1⟩ : ∃ m,m = List.length (L0.take k) := ⟨_,rfl⟩
      rw [← hm1] at hx
      rw [hx] at e0 hr h2
      refine gives_mono (R := fun v w' => v = v' ∧ w' = W') (by unfold gives; simp [execOp,resolve,invoke,builtin,e0,e1,hr,Result.andThen]) ?_
      rintro _ _ ⟨rfl,rfl⟩
      exact ⟨.inl ⟨by decide,h1⟩,⟨hI.1.trans hlow,Nat.le_trans hI.2 hlow.size⟩,fun j u hj h => by
        rcases h with ⟨hm,h⟩ | h
        · refine .inl ⟨hm,?_⟩
          simp only [List.mem_cons,List.not_mem_nil,or_false] at hm
          rcases hm with rfl | rfl | rfl
          · exact h
          · have h' : EP n C9 (L0.take k) u W := h
            rw [← hx] at h2
            exact h'.kept h2 h3 hI.2
          · exact absurd rfl hj
        · exact .inr h⟩
    case h12 =>
      refine OpIs.plain (by kernel_rfl) _ rfl rfl fun vs ev W hf hI hd => ?_
      have e0 : ev (.tmp 13) = .pointer (some ⟨n + 1 + 1,0,none⟩) := hf.off 13 rfl
      clear hK
      exact gives_pure (v := .pointer (some ⟨n + 1 + 1,0,none⟩)) hI (by simp [gives,go_sem,e0]) (.inr ⟨by decide,rfl⟩)
  case hlast =>
    intro vs W hI hT
    have hE := (hT 11 (by decide)).spec (by decide)
    have hE : EP n C9 (L0.take k ++ L0.drop (k + 1)) (vs 11) W := hE
    obtain ⟨ga9,gc9,hv⟩ := hE.form
    obtain ⟨m9,hm9⟩ : ∃ m,m = (L0.take k ++ L0.drop (k + 1)).length := ⟨_,rfl⟩
    rw [← hm9] at hv
    clear hm9
    have t12 := (hT 12 (by decide)).val (by decide)
    refine last_plain (by kernel_rfl) rfl fun F ev hF hf => ?_
    have e1 := (hf.of 11 _ 54 rfl rfl rfl (of_decide_eq_true rfl)).trans hv
    have e2 : ev (.tmp 55) = .pointer (some ⟨n + 1 + 1,0,none⟩) := (hf.of 12 _ 55 rfl rfl rfl (of_decide_eq_true rfl)).trans t12
    have hO := HS9.out.2.2.1.keep hI.1 (by have := HNC.out; omega)
    have c0 := hO.box.cell 0 rfl
    have f0 := hO.box.frozen 0
    rw [hv] at hE
    have HR : Hid (PS w (.slice ga nds.length gc) (.int .i64 out) ⟨x0,y0,x1,y1⟩ ⟨fu,al,ro,da,rm⟩ n n [.slice (some ⟨b,o,none⟩) P pc,.int .i64 s0,.int .i64 s1,.int .i64 s2,.int .i64 s3,.int .i64 sn,.int .i64 pk] (.slice (some ⟨b,o,none⟩) P pc) ps (W.setCell ⟨n + 1 + 1,0,none⟩ (.slice ga9 m9 gc9)) ∧ TB (W.setCell ⟨n + 1 + 1,0,none⟩ (.slice ga9 m9 gc9)) (n + 1) [.slice (some ⟨b,o,none⟩) P pc,.int .i64 s0,.int .i64 s1,.int .i64 s2,.int .i64 s3,.int .i64 sn,.int .i64 (pk - 1)] 33 ∧ TB (W.setCell ⟨n + 1 + 1,0,none⟩ (.slice ga9 m9 gc9)) (n + 1 + 1) [.slice ga9 m9 gc9,.int .i64 s0,.int .i64 s1,.int .i64 s2,.int .i64 s3,.int .i64 sn,.int .i64 pk] 33 ∧ EP n C9 (L0.take k ++ L0.drop (k + 1)) (.slice ga9 m9 gc9) (W.setCell ⟨n + 1 + 1,0,none⟩ (.slice ga9 m9 gc9)) ∧ Below n Wr (W.setCell ⟨n + 1 + 1,0,none⟩ (.slice ga9 m9 gc9)) ∧ C9 ≤ (W.setCell ⟨n + 1 + 1,0,none⟩ (.slice ga9 m9 gc9)).heap.size) := by
      have hs : Below (n + 1 + 1) W (W.setCell ⟨n + 1 + 1,0,none⟩ (.slice ga9 m9 gc9)) := (Below.refl _ _).setCell (p := ⟨n + 1 + 1,0,none⟩) (Nat.le_refl _) _
      have h12 : Below (n + 1 + 1) Wr (W.setCell ⟨n + 1 + 1,0,none⟩ (.slice ga9 m9 gc9)) := (hI.1.mono (by have := HNC.out; omega)).trans hs
      refine ⟨HS9.out.1.keep h12 (by have := HCN.out; omega) (by omega) (by omega),HS9.out.2.1.keep h12 (by omega),hO.put 0 _,?_,h12.mono (by omega),Nat.le_trans hI.2 hs.size⟩
      exact hE.set (p := ⟨n + 1 + 1,0,none⟩) (by have := HNC.out; show n + 1 + 1 < C9; omega) (by show n ≤ n + 1 + 1; omega) _
    refine gives_mono (R := fun v w' => v = undef ∧ w' = W.setCell ⟨n + 1 + 1,0,none⟩ (.slice ga9 m9 gc9)) (by simp [gives,go_sem,e1,e2,c0,f0]) ?_
    rintro _ _ ⟨rfl,rfl⟩
    subst hF
    simp [fr,Act.put,hv,t12]
    generalize vs 0 = v0 at *
    generalize vs 1 = v1 at *
    generalize vs 2 = v2 at *
    generalize vs 3 = v3 at *
    generalize vs 4 = v4 at *
    generalize vs 5 = v5 at *
    generalize vs 6 = v6 at *
    generalize vs 7 = v7 at *
    generalize vs 8 = v8 at *
    generalize vs 9 = v9 at *
    generalize vs 10 = v10 at *
    generalize vs 11 = v11 at *
    generalize vs 12 = v12 at *
    clear hT hf hv t12 e1 e2 hE hO
    refine hK _ _ ?_
    clear hK c0 f0
    generalize W.setCell ⟨n + 1 + 1,0,none⟩ (.slice ga9 m9 gc9) = W9 at *
    clear hI
    have HXX : Hid (∃ na nc ra rc y,L0[k]? = some (.slice na y.nodes.length nc,.slice ra y.reads.length rc,y) ∧ y = ps.getD k Ps.none) := by
      have hkl : k < L0.length := by rw [HLP.out]; exact hkP
      have hx := List.getElem?_eq_getElem hkl
      obtain ⟨⟨s,t,y⟩,hy⟩ : ∃ x,x = L0[k] := ⟨_,rfl⟩
      rw [← hy] at hx
      obtain ⟨h1,h2⟩ := HRW.out.1.inner _ (List.mem_of_getElem? hx)
      obtain ⟨na,nc,hs,_⟩ := h1
      obtain ⟨ra,rc,ht,_⟩ := h2
      dsimp only at hs ht
      rw [ofN_len] at hs
      subst hs ht
      refine ⟨na,nc,ra,rc,y,hx,?_⟩
      rw [← HRW.out.2.1]
      unfold psl
      simp [hx]
    obtain ⟨na,nc,ra,rc,y,hxk,hyk⟩ := HXX.out
    clear HXX
    have HXK : Hid (L0[k]? = some (.slice na y.nodes.length nc,.slice ra y.reads.length rc,y) ∧ y = ps.getD k Ps.none) := ⟨hxk,hyk⟩
    clear hxk hyk
    have p0 := HR.out.1.2.1.box.cell 0 rfl
    have p1 := HR.out.1.2.1.box.cell 1 rfl
    have p2 := HR.out.1.2.1.box.cell 2 rfl
    have p3 := HR.out.1.2.1.box.cell 3 rfl
    have p4 := HR.out.1.2.1.box.cell 4 rfl
    have p5 := HR.out.1.2.1.box.cell 5 rfl
    have p6 := HR.out.1.2.1.box.cell 6 rfl
    obtain ⟨q4,hq4⟩ : ∃ q,q = W9.heap.size := ⟨_,rfl⟩
    have HS11 : Hid (PS w (.slice ga nds.length gc) (.int .i64 out) ⟨x0,y0,x1,y1⟩ ⟨fu,al,ro,da,rm⟩ n n [.slice (some ⟨b,o,none⟩) P pc,.int .i64 s0,.int .i64 s1,.int .i64 s2,.int .i64 s3,.int .i64 sn,.int .i64 pk] (.slice (some ⟨b,o,none⟩) P pc) ps (W9.alloc (.cells #[.slice (some ⟨b,o,none⟩) P pc,.int .i64 s0,.int .i64 s1,.int .i64 s2,.int .i64 s3,.int .i64 sn,.int .i64 pk] 33)) ∧ TB (W9.alloc (.cells #[.slice (some ⟨b,o,none⟩) P pc,.int .i64 s0,.int .i64 s1,.int .i64 s2,.int .i64 s3,.int .i64 sn,.int .i64 pk] 33)) (n + 1) [.slice (some ⟨b,o,none⟩) P pc,.int .i64 s0,.int .i64 s1,.int .i64 s2,.int .i64 s3,.int .i64 sn,.int .i64 (pk - 1)] 33 ∧ TB (W9.alloc (.cells #[.slice (some ⟨b,o,none⟩) P pc,.int .i64 s0,.int .i64 s1,.int .i64 s2,.int .i64 s3,.int .i64 sn,.int .i64 pk] 33)) (n + 1 + 1) [.slice ga9 m9 gc9,.int .i64 s0,.int .i64 s1,.int .i64 s2,.int .i64 s3,.int .i64 sn,.int .i64 pk] 33 ∧ EP n C9 (L0.take k ++ L0.drop (k + 1)) (.slice ga9 m9 gc9) (W9.alloc (.cells #[.slice (some ⟨b,o,none⟩) P pc,.int .i64 s0,.int .i64 s1,.int .i64 s2,.int .i64 s3,.int .i64 sn,.int .i64 pk] 33)) ∧ Below n Wr (W9.alloc (.cells #[.slice (some ⟨b,o,none⟩) P pc,.int .i64 s0,.int .i64 s1,.int .i64 s2,.int .i64 s3,.int .i64 sn,.int .i64 pk] 33)) ∧ TB (W9.alloc (.cells #[.slice (some ⟨b,o,none⟩) P pc,.int .i64 s0,.int .i64 s1,.int .i64 s2,.int .i64 s3,.int .i64 sn,.int .i64 pk] 33)) q4 [.slice (some ⟨b,o,none⟩) P pc,.int .i64 s0,.int .i64 s1,.int .i64 s2,.int .i64 s3,.int .i64 sn,.int .i64 pk] 33 ∧ (W9.alloc (.cells #[.slice (some ⟨b,o,none⟩) P pc,.int .i64 s0,.int .i64 s1,.int .i64 s2,.int .i64 s3,.int .i64 sn,.int .i64 pk] 33)).heap.size = q4 + 1 ∧ C9 ≤ q4) := by
      have hbn := below_new W9 (.cells #[.slice (some ⟨b,o,none⟩) P pc,.int .i64 s0,.int .i64 s1,.int .i64 s2,.int .i64 s3,.int .i64 sn,.int .i64 pk] 33)
      have h := HR.out
      refine ⟨h.1.call hbn,h.2.1.call hbn,h.2.2.1.call hbn,h.2.2.2.1.call hbn,h.2.2.2.2.1.trans (hbn.mono (by have := h.2.2.2.2.2; have := HNC.out; omega)),?_,by rw [size_alloc,hq4],by rw [hq4]; exact h.2.2.2.2.2⟩
      rw [hq4]
      exact TB.new W9 _ _
    clear HR
    go_wp2_with fail
    rw [← hq4]
    generalize (W9.alloc (.cells #[.slice (some ⟨b,o,none⟩) P pc,.int .i64 s0,.int .i64 s1,.int .i64 s2,.int .i64 s3,.int .i64 sn,.int .i64 pk] 33)) = W10 at *
    clear hq4 p0 p1 p2 p3 p4 p5 p6
    clear W9
    obtain ⟨C10,hC10⟩ : ∃ C,C = W10.heap.size := ⟨_,rfl⟩
    have HC10 : Hid (C10 = W10.heap.size ∧ q4 + 1 = C10 ∧ C9 ≤ q4) := by
      have h := HS11.out.2.2.2.2.2.2
      exact ⟨hC10,by rw [hC10]; exact h.1.symm,h.2⟩
    clear hC10
    rename_i K hK
    refine wp_region_last (fun W => Below C10 W10 W ∧ C10 ≤ W.heap.size) (QT [undef,.pointer (some ⟨n,0,none⟩),.slice (some ⟨b,o,none⟩) P pc,undef,.pointer (some ⟨n,0,none⟩),.slice (some ⟨b,o,none⟩) P pc,.int .i64 k,.pointer (some ⟨b,o + k * 8,none⟩),.agg #[.slice na y.nodes.length nc,.slice ra y.reads.length rc,.int .i64 y.box.x0,.int .i64 y.box.y0,.int .i64 y.box.x1,.int .i64 y.box.y1,.int .i64 y.slot,.int .i64 y.last],undef,undef,.pointer (some ⟨q4,0,none⟩)] [0,3,9,10] (R11 n C10 L0 (.slice na y.nodes.length nc,.slice ra y.reads.length rc,y))) 12 _ rfl rfl (by kernel_rfl) (by kernel_rfl) ⟨(Below.refl _ _).drew,Nat.le_of_eq HC10.out.1⟩ ?hop ?hlast
    case hop =>
      refine Each.get (n := 12) ⟨⟨⟨⟨⟨⟨⟨⟨⟨⟨⟨⟨trivial,?h0⟩,?h1⟩,?h2⟩,?h3⟩,?h4⟩,?h5⟩,?h6⟩,?h7⟩,?h8⟩,?h9⟩,?h10⟩,?h11⟩
      case h0 =>
        refine OpIs.plain (by kernel_rfl) _ rfl rfl fun vs ev W hf hI hd => ?_
        clear hK
        refine gives_mono (R := fun v w' => v = .slice (some ⟨W.heap.size,0,none⟩) 0 0 ∧ w' = W.alloc (.cells #[] 37)) (by simp [gives,go_sem]) ?_
        rintro _ _ ⟨rfl,rfl⟩
        have hb := below_alloc W (.cells #[] 37)
        exact ⟨.inl ⟨by decide,_,rfl⟩,⟨hI.1.trans (hb.mono hI.2),Nat.le_trans hI.2 hb.size⟩,fun j u _ h => QT.stab R11.stab _ _ _ _ h hb⟩
      case h1 =>
        refine OpIs.plain (by kernel_rfl) _ rfl rfl fun vs ev W hf hI hd => ?_
        have e0 : ev (.tmp 9) = .pointer (some ⟨n,0,none⟩) := hf.off 9 rfl
        clear hK
        exact gives_pure (v := .pointer (some ⟨n,0,none⟩)) hI (by simp [gives,go_sem,e0]) (.inr ⟨by decide,rfl⟩)
      case h2 =>
        refine OpIs.plain (by kernel_rfl) _ rfl rfl fun vs ev W hf hI hd => ?_
        have e0 : ev (.tmp 58) = .pointer (some ⟨n,0,none⟩) := (hf.of 1 _ 58 rfl rfl rfl (of_decide_eq_true rfl)).trans ((hd 1 (by kernel_rfl)).val (by decide))
        have d0 := (HS11.out.1.2.1.keep (hI.1) (by have := HNC.out; have := HC10.out; omega)).box.cell 0 rfl
        clear hK
        exact gives_pure (v := .slice (some ⟨b,o,none⟩) P pc) hI (by simp [gives,go_sem,e0,d0]) (.inr ⟨by decide,rfl⟩)
      case h3 =>
        refine OpIs.plain (by kernel_rfl) _ rfl rfl fun vs ev W hf hI hd => ?_
        have hr0 := (hd 0 (by kernel_rfl)).spec (by decide)
        obtain ⟨g,hg⟩ := hr0
        have hE : EP n C10 [] (vs 0) W := .inl ⟨rfl,g,hg⟩
        have e0 : ev (.tmp 57) = vs 0 := hf.of 0 _ 57 rfl rfl rfl (of_decide_eq_true rfl)
        have e1 : ev (.tmp 59) = .slice (some ⟨b,o,none⟩) P pc := (hf.of 2 _ 59 rfl rfl rfl (of_decide_eq_true rfl)).trans ((hd 2 (by kernel_rfl)).val (by decide))
        have hsrc : SrcP n L0 (.slice (some ⟨b,o,none⟩) P pc) W := HLP.out ▸ (HRW.out.1.below ((HS11.out.2.2.2.2.1).trans (hI.1.mono (by have := HNC.out; have := HC10.out; omega))) HRW.out.2.2).all
        obtain ⟨v',W',hr,h1,h2,h3,h4⟩ := hE.append hsrc hI.2 (by have := HNC.out; have := HC10.out; omega) (by have := HLP.out; simp; omega)
        have hlow := h3.low hI.2
        clear hK
        obtain ⟨xa,xc,hx⟩ := hE.form
        obtain ⟨m1,hm1⟩ : ∃ m,m = List.length ([] : List (Value × Value × Ps)) := ⟨_,rfl⟩
        rw [← hm1] at hx
        rw [hx] at e0 hr h2
        refine gives_mono (R := fun v w' => v = v' ∧ w' = W') (by unfold gives; simp [execOp,resolve,invoke,builtin,e0,e1,hr,Result.andThen]) ?_
        rintro _ _ ⟨rfl,rfl⟩
        exact ⟨.inl ⟨by decide,h1⟩,⟨hI.1.trans hlow,Nat.le_trans hI.2 hlow.size⟩,fun j u _ h => QT.stab R11.stab _ _ _ _ h (h4 rfl)⟩
      case h4 =>
        refine OpIs.plain (by kernel_rfl) _ rfl rfl fun vs ev W hf hI hd => ?_
        have e0 : ev (.tmp 9) = .pointer (some ⟨n,0,none⟩) := hf.off 9 rfl
        clear hK
        exact gives_pure (v := .pointer (some ⟨n,0,none⟩)) hI (by simp [gives,go_sem,e0]) (.inr ⟨by decide,rfl⟩)
      case h5 =>
        refine OpIs.plain (by kernel_rfl) _ rfl rfl fun vs ev W hf hI hd => ?_
        have e0 : ev (.tmp 61) = .pointer (some ⟨n,0,none⟩) := (hf.of 4 _ 61 rfl rfl rfl (of_decide_eq_true rfl)).trans ((hd 4 (by kernel_rfl)).val (by decide))
        have d0 := (HS11.out.1.2.1.keep (hI.1) (by have := HNC.out; have := HC10.out; omega)).box.cell 0 rfl
        clear hK
        exact gives_pure (v := .slice (some ⟨b,o,none⟩) P pc) hI (by simp [gives,go_sem,e0,d0]) (.inr ⟨by decide,rfl⟩)
      case h6 =>
        refine OpIs.plain (by kernel_rfl) _ rfl rfl fun vs ev W hf hI hd => ?_
        have e0 : ev (.tmp 11) = .int .i64 k := hf.off 11 rfl
        clear hK
        exact gives_pure (v := .int .i64 k) hI (by simp [gives,go_sem,e0]) (.inr ⟨by decide,rfl⟩)
      case h7 =>
        refine OpIs.plain (by kernel_rfl) _ rfl rfl fun vs ev W hf hI hd => ?_
        have e0 : ev (.tmp 62) = .slice (some ⟨b,o,none⟩) P pc := (hf.of 5 _ 62 rfl rfl rfl (of_decide_eq_true rfl)).trans ((hd 5 (by kernel_rfl)).val (by decide))
        have e1 : ev (.tmp 63) = .int .i64 k := (hf.of 6 _ 63 rfl rfl rfl (of_decide_eq_true rfl)).trans ((hd 6 (by kernel_rfl)).val (by decide))
        clear hK
        exact gives_pure (v := .pointer (some ⟨b,o + k * 8,none⟩)) hI (by simp [gives,go_sem,e0,e1,hk0,hk2]) (.inr ⟨by decide,rfl⟩)
      case h8 =>
        refine OpIs.plain (by kernel_rfl) _ rfl rfl fun vs ev W hf hI hd => ?_
        have e0 : ev (.tmp 64) = .pointer (some ⟨b,o + k * 8,none⟩) := (hf.of 7 _ 64 rfl rfl rfl (of_decide_eq_true rfl)).trans ((hd 7 (by kernel_rfl)).val (by decide))
        have d0 := cell_add0 ((HRW.out.1.below ((HS11.out.2.2.2.2.1).trans (hI.1.mono (by have := HNC.out; have := HC10.out; omega))) HRW.out.2.2).cells (k * 8 + 0) _ (pcs_get L0 k _ HXK.out.1 0 _ rfl))
        have d1 := cell_add ((HRW.out.1.below ((HS11.out.2.2.2.2.1).trans (hI.1.mono (by have := HNC.out; have := HC10.out; omega))) HRW.out.2.2).cells (k * 8 + 1) _ (pcs_get L0 k _ HXK.out.1 1 _ rfl))
        have d2 := cell_add ((HRW.out.1.below ((HS11.out.2.2.2.2.1).trans (hI.1.mono (by have := HNC.out; have := HC10.out; omega))) HRW.out.2.2).cells (k * 8 + 2) _ (pcs_get L0 k _ HXK.out.1 2 _ rfl))
        have d3 := cell_add ((HRW.out.1.below ((HS11.out.2.2.2.2.1).trans (hI.1.mono (by have := HNC.out; have := HC10.out; omega))) HRW.out.2.2).cells (k * 8 + 3) _ (pcs_get L0 k _ HXK.out.1 3 _ rfl))
        have d4 := cell_add ((HRW.out.1.below ((HS11.out.2.2.2.2.1).trans (hI.1.mono (by have := HNC.out; have := HC10.out; omega))) HRW.out.2.2).cells (k * 8 + 4) _ (pcs_get L0 k _ HXK.out.1 4 _ rfl))
        have d5 := cell_add ((HRW.out.1.below ((HS11.out.2.2.2.2.1).trans (hI.1.mono (by have := HNC.out; have := HC10.out; omega))) HRW.out.2.2).cells (k * 8 + 5) _ (pcs_get L0 k _ HXK.out.1 5 _ rfl))
        have d6 := cell_add ((HRW.out.1.below ((HS11.out.2.2.2.2.1).trans (hI.1.mono (by have := HNC.out; have := HC10.out; omega))) HRW.out.2.2).cells (k * 8 + 6) _ (pcs_get L0 k _ HXK.out.1 6 _ rfl))
        have d7 := cell_add ((HRW.out.1.below ((HS11.out.2.2.2.2.1).trans (hI.1.mono (by have := HNC.out; have := HC10.out; omega))) HRW.out.2.2).cells (k * 8 + 7) _ (pcs_get L0 k _ HXK.out.1 7 _ rfl))
        clear hK
        exact gives_pure (v := .agg #[.slice na y.nodes.length nc,.slice ra y.reads.length rc,.int .i64 y.box.x0,.int .i64 y.box.y0,.int .i64 y.box.x1,.int .i64 y.box.y1,.int .i64 y.slot,.int .i64 y.last]) hI (by simp [gives,go_sem,e0,d0,d1,d2,d3,d4,d5,d6,d7]) (.inr ⟨by decide,rfl⟩)
      case h9 =>
        refine OpIs.plain (by kernel_rfl) _ rfl rfl fun vs ev W hf hI hd => ?_
        have e0 : ev (.tmp 65) = .agg #[.slice na y.nodes.length nc,.slice ra y.reads.length rc,.int .i64 y.box.x0,.int .i64 y.box.y0,.int .i64 y.box.x1,.int .i64 y.box.y1,.int .i64 y.slot,.int .i64 y.last] := (hf.of 8 _ 65 rfl rfl rfl (of_decide_eq_true rfl)).trans ((hd 8 (by kernel_rfl)).val (by decide))
        clear hK
        refine gives_mono (R := fun v w' => v = .slice (some ⟨W.heap.size,0,none⟩) 1 1 ∧ w' = W.alloc (.cells #[.slice na y.nodes.length nc,.slice ra y.reads.length rc,.int .i64 y.box.x0,.int .i64 y.box.y0,.int .i64 y.box.x1,.int .i64 y.box.y1,.int .i64 y.slot,.int .i64 y.last] 37)) (by simp [gives,go_sem,e0]) ?_
        rintro _ _ ⟨rfl,rfl⟩
        have hb := below_alloc W (.cells #[.slice na y.nodes.length nc,.slice ra y.reads.length rc,.int .i64 y.box.x0,.int .i64 y.box.y0,.int .i64 y.box.x1,.int .i64 y.box.y1,.int .i64 y.slot,.int .i64 y.last] 37)
        exact ⟨.inl ⟨by decide,W.heap.size,rfl,by rw [size_alloc]; omega,alloc_at W _⟩,⟨hI.1.trans (hb.mono hI.2),Nat.le_trans hI.2 hb.size⟩,fun j u _ h => QT.stab R11.stab _ _ _ _ h hb⟩
      case h10 =>
        refine OpIs.plain (by kernel_rfl) _ rfl rfl fun vs ev W hf hI hd => ?_
        have hE : EP n C10 L0 (vs 3) W := (hd 3 (by kernel_rfl)).spec (by decide)
        obtain ⟨g,hg,hgl,hgc⟩ := (hd 9 (by kernel_rfl)).spec (by decide)
        have e0 : ev (.tmp 60) = vs 3 := hf.of 3 _ 60 rfl rfl rfl (of_decide_eq_true rfl)
        have e1 := (hf.of 9 _ 66 rfl rfl rfl (of_decide_eq_true rfl)).trans hg
        have hsrc : SrcP n [(.slice na y.nodes.length nc,.slice ra y.reads.length rc,y)] (.slice (some ⟨g,0,none⟩) 1 1) W := SrcP.one_new hgc (HRW.out.1.below ((HS11.out.2.2.2.2.1).trans (hI.1.mono (by have := HNC.out; have := HC10.out; omega))) HRW.out.2.2).inner (List.mem_of_getElem? HXK.out.1)
        obtain ⟨v',W',hr,h1,h2,h3,h4⟩ := hE.append hsrc hI.2 (by have := HNC.out; have := HC10.out; omega) (by have := HLP.out; simp; omega)
        have hlow := h3.low hI.2
        clear hK
        obtain ⟨xa,xc,hx⟩ := hE.form
        obtain ⟨m1,hm1⟩ : ∃ m,m = List.length L0 := ⟨_,rfl⟩
        rw [← hm1] at hx
        rw [hx] at e0 hr h2
        refine gives_mono (R := fun v w' => v = v' ∧ w' = W') (by unfold gives; simp [execOp,resolve,invoke,builtin,e0,e1,hr,Result.andThen]) ?_
        rintro _ _ ⟨rfl,rfl⟩
        refine ⟨.inl ⟨by decide,h1⟩,⟨hI.1.trans hlow,Nat.le_trans hI.2 hlow.size⟩,fun j u hj h => ?_⟩
        rcases h with ⟨hm,h⟩ | h
        · refine .inl ⟨hm,?_⟩
          simp only [List.mem_cons,List.not_mem_nil,or_false] at hm
          rcases hm with rfl | rfl | rfl | rfl
          · exact h
          · have h' : EP n C10 L0 u W := h
            rw [← hx] at h2
            exact h'.kept h2 h3 hI.2
          · obtain ⟨g',hg',hgl',hgc'⟩ := h
            exact ⟨g',hg',Nat.lt_of_lt_of_le hgl' hlow.size,h3.news hgl' hgc' rfl (by have := HLP.out; omega)⟩
          · exact absurd rfl hj
        · exact .inr h
      case h11 =>
        refine OpIs.plain (by kernel_rfl) _ rfl rfl fun vs ev W hf hI hd => ?_
        have e0 : ev (.tmp 14) = .pointer (some ⟨q4,0,none⟩) := hf.off 14 rfl
        clear hK
        exact gives_pure (v := .pointer (some ⟨q4,0,none⟩)) hI (by simp [gives,go_sem,e0]) (.inr ⟨by decide,rfl⟩)
    case hlast =>
      intro vs W hI hT
      have hE := (hT 10 (by decide)).spec (by decide)
      have hE : EP n C10 (L0 ++ [(.slice na y.nodes.length nc,.slice ra y.reads.length rc,y)]) (vs 10) W := hE
      obtain ⟨gat,gct,hv⟩ := hE.form
      obtain ⟨mt,hmt⟩ : ∃ m,m = (L0 ++ [((.slice na y.nodes.length nc,.slice ra y.reads.length rc,y) : Value × Value × Ps)]).length := ⟨_,rfl⟩
      rw [← hmt] at hv
      clear hmt
      have t11 := (hT 11 (by decide)).val (by decide)
      refine last_plain (by kernel_rfl) rfl fun F ev hF hf => ?_
      have e1 := (hf.of 10 _ 67 rfl rfl rfl (of_decide_eq_true rfl)).trans hv
      have e2 : ev (.tmp 68) = .pointer (some ⟨q4,0,none⟩) := (hf.of 11 _ 68 rfl rfl rfl (of_decide_eq_true rfl)).trans t11
      have hO := HS11.out.2.2.2.2.2.1.keep hI.1 (by have := HC10.out; omega)
      have c0 := hO.box.cell 0 rfl
      have f0 := hO.box.frozen 0
      rw [hv] at hE
      have HR : Hid (PS w (.slice ga nds.length gc) (.int .i64 out) ⟨x0,y0,x1,y1⟩ ⟨fu,al,ro,da,rm⟩ n n [.slice (some ⟨b,o,none⟩) P pc,.int .i64 s0,.int .i64 s1,.int .i64 s2,.int .i64 s3,.int .i64 sn,.int .i64 pk] (.slice (some ⟨b,o,none⟩) P pc) ps (W.setCell ⟨q4,0,none⟩ (.slice gat mt gct)) ∧ TB (W.setCell ⟨q4,0,none⟩ (.slice gat mt gct)) (n + 1) [.slice (some ⟨b,o,none⟩) P pc,.int .i64 s0,.int .i64 s1,.int .i64 s2,.int .i64 s3,.int .i64 sn,.int .i64 (pk - 1)] 33 ∧ TB (W.setCell ⟨q4,0,none⟩ (.slice gat mt gct)) (n + 1 + 1) [.slice ga9 m9 gc9,.int .i64 s0,.int .i64 s1,.int .i64 s2,.int .i64 s3,.int .i64 sn,.int .i64 pk] 33 ∧ EP n C9 (L0.take k ++ L0.drop (k + 1)) (.slice ga9 m9 gc9) (W.setCell ⟨q4,0,none⟩ (.slice gat mt gct)) ∧ Below n Wr (W.setCell ⟨q4,0,none⟩ (.slice gat mt gct)) ∧ TB (W.setCell ⟨q4,0,none⟩ (.slice gat mt gct)) q4 [.slice gat mt gct,.int .i64 s0,.int .i64 s1,.int .i64 s2,.int .i64 s3,.int .i64 sn,.int .i64 pk] 33 ∧ EP n C10 (L0 ++ [(.slice na y.nodes.length nc,.slice ra y.reads.length rc,y)]) (.slice gat mt gct) (W.setCell ⟨q4,0,none⟩ (.slice gat mt gct))) := by
        have hn1 := HNC.out
        have hn2 := HC10.out
        have hn3 := HCN.out
        have hs : Below q4 W (W.setCell ⟨q4,0,none⟩ (.slice gat mt gct)) := (Below.refl _ _).setCell (p := ⟨q4,0,none⟩) (Nat.le_refl _) _
        have h12 : Below q4 W10 (W.setCell ⟨q4,0,none⟩ (.slice gat mt gct)) := (hI.1.mono (by omega)).trans hs
        have h := HS11.out
        refine ⟨h.1.keep h12 (by omega) (by omega) (by omega),h.2.1.keep h12 (by omega),h.2.2.1.keep h12 (by omega),?_,h.2.2.2.2.1.trans (h12.mono (by omega)),hO.put 0 _,hE.set (p := ⟨q4,0,none⟩) (by show q4 < C10; omega) (by show n ≤ q4; omega) _⟩
        exact (h.2.2.2.1.call (hn2.1 ▸ hI.1)).setT hO (by omega) 0 _
      refine gives_mono (R := fun v w' => v = undef ∧ w' = W.setCell ⟨q4,0,none⟩ (.slice gat mt gct)) (by simp [gives,go_sem,e1,e2,c0,f0]) ?_
      rintro _ _ ⟨rfl,rfl⟩
      subst hF
      simp [fr,Act.put,hv,t11]
      generalize vs 0 = v0 at *
      generalize vs 1 = v1 at *
      generalize vs 2 = v2 at *
      generalize vs 3 = v3 at *
      generalize vs 4 = v4 at *
      generalize vs 5 = v5 at *
      generalize vs 6 = v6 at *
      generalize vs 7 = v7 at *
      generalize vs 8 = v8 at *
      generalize vs 9 = v9 at *
      generalize vs 10 = v10 at *
      generalize vs 11 = v11 at *
      clear hT hf hv t11 e1 e2 hE hO
      refine hK _ _ ?_
      clear hK c0 f0
      generalize W.setCell ⟨q4,0,none⟩ (.slice gat mt gct) = W12 at *
      clear hI
      have hck := qcheck_c (B := W12.heap.size) (nds := nds) (out := out) (want := ⟨x0,y0,x1,y1⟩) (c := ⟨fu,al,ro,da,rm⟩) (p := ⟨ps,⟨s0,s1,s2,s3⟩,sn,(pk - 1)⟩) W12 ((HG.out.1.below HR.out.1.1.2.2.2 (Nat.le_refl _)).mono HR.out.1.1.2.2.2.size) (HR.out.1.2.2.1.mono HR.out.1.2.2.2) (Nat.le_refl _) HP.out.1.gn HP.out.1.rc HP.out.1.ne (ChOk.sub HP.out.1 HP.out.2 HPN.out (by dsimp only; omega) (planN_mk HP.out.1 HPN.out))
      have hcf : chkP nds out ⟨x0,y0,x1,y1⟩ ⟨fu,al,ro,da,rm⟩ ⟨ps,⟨s0,s1,s2,s3⟩,sn,(pk - 1)⟩ = false := less_chk HP.out.1 HPN.out
      rw [hcf] at hck
      unfold pnv at hck
      dsimp only at hck
      have he : errP false = 12 := rfl
      rw [he] at hck
      clear hcf he
      have g0 := HR.out.1.1.1.cell 0 rfl
      have g1 := HR.out.1.1.1.cell 1 rfl
      obtain ⟨r0,r1,r2,r3⟩ := box4 HR.out.1.1.2.1
      obtain ⟨m0,m1,m2,m3,m4,mf⟩ := HR.out.1.1.conf
      have p0 := HR.out.2.1.box.cell 0 rfl
      have p1 := HR.out.2.1.box.cell 1 rfl
      have p2 := HR.out.2.1.box.cell 2 rfl
      have p3 := HR.out.2.1.box.cell 3 rfl
      have p4 := HR.out.2.1.box.cell 4 rfl
      have p5 := HR.out.2.1.box.cell 5 rfl
      have p6 := HR.out.2.1.box.cell 6 rfl
      go_wp2_with fail
      with_reducible refine hck.mono ?_
      rintro e w13 ⟨rfl,hb⟩
      have HRa : Hid (PS w (.slice ga nds.length gc) (.int .i64 out) ⟨x0,y0,x1,y1⟩ ⟨fu,al,ro,da,rm⟩ n n [.slice (some ⟨b,o,none⟩) P pc,.int .i64 s0,.int .i64 s1,.int .i64 s2,.int .i64 s3,.int .i64 sn,.int .i64 pk] (.slice (some ⟨b,o,none⟩) P pc) ps w13 ∧ TB w13 (n + 1) [.slice (some ⟨b,o,none⟩) P pc,.int .i64 s0,.int .i64 s1,.int .i64 s2,.int .i64 s3,.int .i64 sn,.int .i64 (pk - 1)] 33 ∧ TB w13 (n + 1 + 1) [.slice ga9 m9 gc9,.int .i64 s0,.int .i64 s1,.int .i64 s2,.int .i64 s3,.int .i64 sn,.int .i64 pk] 33 ∧ EP n C9 (L0.take k ++ L0.drop (k + 1)) (.slice ga9 m9 gc9) w13 ∧ Below n Wr w13 ∧ TB w13 q4 [.slice gat mt gct,.int .i64 s0,.int .i64 s1,.int .i64 s2,.int .i64 s3,.int .i64 sn,.int .i64 pk] 33 ∧ EP n C10 (L0 ++ [(.slice na y.nodes.length nc,.slice ra y.reads.length rc,y)]) (.slice gat mt gct) w13) := by
        have h := HR.out
        exact ⟨h.1.call hb,h.2.1.call hb,h.2.2.1.call hb,h.2.2.2.1.call hb,h.2.2.2.2.1.trans (hb.mono h.1.2.2.2),h.2.2.2.2.2.1.call hb,h.2.2.2.2.2.2.call hb⟩
      clear hck hb HR g0 g1 r0 r1 r2 r3 m0 m1 m2 m3 m4 mf p0 p1 p2 p3 p4 p5 p6
      have hpl9 : psl (L0.take k ++ L0.drop (k + 1)) = ps.take k ++ ps.drop (k + 1) := by
        rw [← HRW.out.2.1]
        simp [psl,List.map_take,List.map_drop]
      have hck := qcheck_c (B := w13.heap.size) (nds := nds) (out := out) (want := ⟨x0,y0,x1,y1⟩) (c := ⟨fu,al,ro,da,rm⟩) (p := ⟨psl (L0.take k ++ L0.drop (k + 1)),⟨s0,s1,s2,s3⟩,sn,pk⟩) w13 ((HG.out.1.below HRa.out.1.1.2.2.2 (Nat.le_refl _)).mono HRa.out.1.1.2.2.2.size) (HRa.out.2.2.2.1.gp) (Nat.le_refl _) HP.out.1.gn HP.out.1.rc HP.out.1.ne (ChOk.sub HP.out.1 HP.out.2 HPN.out (by rw [hpl9]; simp; omega) (fun y hy => by rw [hpl9] at hy; rcases List.mem_append.1 hy with h | h; exact planN_mk HP.out.1 HPN.out y (List.mem_of_mem_take h); exact planN_mk HP.out.1 HPN.out y (List.mem_of_mem_drop h)))
      have hcf : chkP nds out ⟨x0,y0,x1,y1⟩ ⟨fu,al,ro,da,rm⟩ ⟨psl (L0.take k ++ L0.drop (k + 1)),⟨s0,s1,s2,s3⟩,sn,pk⟩ = false := by rw [hpl9]; exact out_chk HP.out.1 HPN.out (by dsimp only; rw [← HPL.out]; exact hkP)
      rw [hcf] at hck
      unfold pnv at hck
      dsimp only at hck
      have he : errP false = 12 := rfl
      rw [he] at hck
      clear hcf he
      have g0 := HRa.out.1.1.1.cell 0 rfl
      have g1 := HRa.out.1.1.1.cell 1 rfl
      obtain ⟨r0,r1,r2,r3⟩ := box4 HRa.out.1.1.2.1
      obtain ⟨m0,m1,m2,m3,m4,mf⟩ := HRa.out.1.1.conf
      have p0 := HRa.out.2.2.1.box.cell 0 rfl
      have p1 := HRa.out.2.2.1.box.cell 1 rfl
      have p2 := HRa.out.2.2.1.box.cell 2 rfl
      have p3 := HRa.out.2.2.1.box.cell 3 rfl
      have p4 := HRa.out.2.2.1.box.cell 4 rfl
      have p5 := HRa.out.2.2.1.box.cell 5 rfl
      have p6 := HRa.out.2.2.1.box.cell 6 rfl
      go_wp2_with fail
      with_reducible refine hck.mono ?_
      rintro e w14 ⟨rfl,hb⟩
      have HRb : Hid (PS w (.slice ga nds.length gc) (.int .i64 out) ⟨x0,y0,x1,y1⟩ ⟨fu,al,ro,da,rm⟩ n n [.slice (some ⟨b,o,none⟩) P pc,.int .i64 s0,.int .i64 s1,.int .i64 s2,.int .i64 s3,.int .i64 sn,.int .i64 pk] (.slice (some ⟨b,o,none⟩) P pc) ps w14 ∧ TB w14 (n + 1) [.slice (some ⟨b,o,none⟩) P pc,.int .i64 s0,.int .i64 s1,.int .i64 s2,.int .i64 s3,.int .i64 sn,.int .i64 (pk - 1)] 33 ∧ TB w14 (n + 1 + 1) [.slice ga9 m9 gc9,.int .i64 s0,.int .i64 s1,.int .i64 s2,.int .i64 s3,.int .i64 sn,.int .i64 pk] 33 ∧ EP n C9 (L0.take k ++ L0.drop (k + 1)) (.slice ga9 m9 gc9) w14 ∧ Below n Wr w14 ∧ TB w14 q4 [.slice gat mt gct,.int .i64 s0,.int .i64 s1,.int .i64 s2,.int .i64 s3,.int .i64 sn,.int .i64 pk] 33 ∧ EP n C10 (L0 ++ [(.slice na y.nodes.length nc,.slice ra y.reads.length rc,y)]) (.slice gat mt gct) w14) := by
        have h := HRa.out
        exact ⟨h.1.call hb,h.2.1.call hb,h.2.2.1.call hb,h.2.2.2.1.call hb,h.2.2.2.2.1.trans (hb.mono h.1.2.2.2),h.2.2.2.2.2.1.call hb,h.2.2.2.2.2.2.call hb⟩
      clear hck hb HRa g0 g1 r0 r1 r2 r3 m0 m1 m2 m3 m4 mf p0 p1 p2 p3 p4 p5 p6
      clear hpl9
      have hplt : psl (L0 ++ [(.slice na y.nodes.length nc,.slice ra y.reads.length rc,y)]) = ps ++ [ps.getD k Ps.none] := by
        rw [← HXK.out.2,← HRW.out.2.1]
        simp [psl]
      have hkm : ps.getD k Ps.none ∈ ps := getD_mem _ (by rw [← HPL.out]; exact hkP)
      have hck := qcheck_c (B := w14.heap.size) (nds := nds) (out := out) (want := ⟨x0,y0,x1,y1⟩) (c := ⟨fu,al,ro,da,rm⟩) (p := ⟨psl (L0 ++ [(.slice na y.nodes.length nc,.slice ra y.reads.length rc,y)]),⟨s0,s1,s2,s3⟩,sn,pk⟩) w14 ((HG.out.1.below HRb.out.1.1.2.2.2 (Nat.le_refl _)).mono HRb.out.1.1.2.2.2.size) (HRb.out.2.2.2.2.2.2.gp) (Nat.le_refl _) HP.out.1.gn HP.out.1.rc HP.out.1.ne (ChOk.sub HP.out.1 HP.out.2 HPN.out (by rw [hplt]; simp) (fun y hy => by rw [hplt] at hy; rcases List.mem_append.1 hy with h | h; exact planN_mk HP.out.1 HPN.out y h; rw [List.mem_singleton.1 h]; exact planN_mk HP.out.1 HPN.out _ hkm))
      have hcf : chkP nds out ⟨x0,y0,x1,y1⟩ ⟨fu,al,ro,da,rm⟩ ⟨psl (L0 ++ [(.slice na y.nodes.length nc,.slice ra y.reads.length rc,y)]),⟨s0,s1,s2,s3⟩,sn,pk⟩ = false := by rw [hplt]; exact twice_chk HP.out.1 HPN.out (by dsimp only; rw [← HPL.out]; exact hkP)
      rw [hcf] at hck
      unfold pnv at hck
      dsimp only at hck
      have he : errP false = 12 := rfl
      rw [he] at hck
      clear hcf he
      have g0 := HRb.out.1.1.1.cell 0 rfl
      have g1 := HRb.out.1.1.1.cell 1 rfl
      obtain ⟨r0,r1,r2,r3⟩ := box4 HRb.out.1.1.2.1
      obtain ⟨m0,m1,m2,m3,m4,mf⟩ := HRb.out.1.1.conf
      have p0 := HRb.out.2.2.2.2.2.1.box.cell 0 rfl
      have p1 := HRb.out.2.2.2.2.2.1.box.cell 1 rfl
      have p2 := HRb.out.2.2.2.2.2.1.box.cell 2 rfl
      have p3 := HRb.out.2.2.2.2.2.1.box.cell 3 rfl
      have p4 := HRb.out.2.2.2.2.2.1.box.cell 4 rfl
      have p5 := HRb.out.2.2.2.2.2.1.box.cell 5 rfl
      have p6 := HRb.out.2.2.2.2.2.1.box.cell 6 rfl
      go_wp2_with fail
      with_reducible refine hck.mono ?_
      rintro e w15 ⟨rfl,hb⟩
      have HRc : Hid (PS w (.slice ga nds.length gc) (.int .i64 out) ⟨x0,y0,x1,y1⟩ ⟨fu,al,ro,da,rm⟩ n n [.slice (some ⟨b,o,none⟩) P pc,.int .i64 s0,.int .i64 s1,.int .i64 s2,.int .i64 s3,.int .i64 sn,.int .i64 pk] (.slice (some ⟨b,o,none⟩) P pc) ps w15 ∧ TB w15 (n + 1) [.slice (some ⟨b,o,none⟩) P pc,.int .i64 s0,.int .i64 s1,.int .i64 s2,.int .i64 s3,.int .i64 sn,.int .i64 (pk - 1)] 33 ∧ TB w15 (n + 1 + 1) [.slice ga9 m9 gc9,.int .i64 s0,.int .i64 s1,.int .i64 s2,.int .i64 s3,.int .i64 sn,.int .i64 pk] 33 ∧ EP n C9 (L0.take k ++ L0.drop (k + 1)) (.slice ga9 m9 gc9) w15 ∧ Below n Wr w15 ∧ TB w15 q4 [.slice gat mt gct,.int .i64 s0,.int .i64 s1,.int .i64 s2,.int .i64 s3,.int .i64 sn,.int .i64 pk] 33 ∧ EP n C10 (L0 ++ [(.slice na y.nodes.length nc,.slice ra y.reads.length rc,y)]) (.slice gat mt gct) w15) := by
        have h := HRb.out
        exact ⟨h.1.call hb,h.2.1.call hb,h.2.2.1.call hb,h.2.2.2.1.call hb,h.2.2.2.2.1.trans (hb.mono h.1.2.2.2),h.2.2.2.2.2.1.call hb,h.2.2.2.2.2.2.call hb⟩
      clear hck hb HRb g0 g1 r0 r1 r2 r3 m0 m1 m2 m3 m4 mf p0 p1 p2 p3 p4 p5 p6
      clear hplt hkm
      have HL0 : Hid (PS w (.slice ga nds.length gc) (.int .i64 out) ⟨x0,y0,x1,y1⟩ ⟨fu,al,ro,da,rm⟩ n n [.slice (some ⟨b,o,none⟩) P pc,.int .i64 s0,.int .i64 s1,.int .i64 s2,.int .i64 s3,.int .i64 sn,.int .i64 pk] (.slice (some ⟨b,o,none⟩) P pc) ps w15 ∧ Below n Wr w15) := ⟨HRc.out.1,HRc.out.2.2.2.2.1⟩
      go_wp2_with fail
      clear HRc HS11 HC10
      clear W10
      obtain ⟨sk,hsk⟩ : ∃ z,z = y.slot := ⟨_,rfl⟩
      have HSK : Hid (sk = y.slot) := hsk
      clear hsk
      go_loopw [15] (fun iv wr => ∃ i : Nat,i ≤ k ∧ iv = .int .i64 i ∧ Hid (PS w (.slice ga nds.length gc) (.int .i64 out) ⟨x0,y0,x1,y1⟩ ⟨fu,al,ro,da,rm⟩ n n [.slice (some ⟨b,o,none⟩) P pc,.int .i64 s0,.int .i64 s1,.int .i64 s2,.int .i64 s3,.int .i64 sn,.int .i64 pk] (.slice (some ⟨b,o,none⟩) P pc) ps wr ∧ Below n Wr wr)) (fun iv _ => k - (intOf iv).toNat)
      case atStart => exact ⟨0,Nat.zero_le _,rfl,HL0⟩
      case round =>
        obtain ⟨i,hi,rfl,hw⟩ := hrel
        clear HL0
        by_cases h1 : i < k
        · have hil : i < ps.length := by have := HPL.out; omega
          have hkl : k < ps.length := by have := HPL.out; omega
          obtain ⟨v,hv⟩ : ∃ v,v = ps.getD i Ps.none := ⟨_,rfl⟩
          have hgp := hw.out.1.2.2.1
          rw [HPL.out] at hgp
          obtain ⟨b',o',na1,nc1,ra1,rc1,hv',_,hpc1,_,_⟩ := hgp.at hil hv
          simp only [Option.some.injEq,Addr.mk.injEq,and_true] at hv'
          obtain ⟨rfl,rfl⟩ := hv'
          obtain ⟨b',o',na2,nc2,ra2,rc2,hv',_,hpc2,_,_⟩ := hgp.at hkl HXK.out.2
          simp only [Option.some.injEq,Addr.mk.injEq,and_true] at hv'
          obtain ⟨rfl,rfl⟩ := hv'
          obtain ⟨_,_,_,_,_,_,l6,l7⟩ := hpc1
          obtain ⟨_,_,_,_,_,_,z6,_⟩ := hpc2
          clear hgp
          obtain ⟨si,hsi⟩ : ∃ z,z = v.slot := ⟨_,rfl⟩
          obtain ⟨la,hla⟩ : ∃ z,z = v.last := ⟨_,rfl⟩
          have HSI : Hid (si = (ps.getD i Ps.none).slot ∧ la = (ps.getD i Ps.none).last) := ⟨by rw [hsi,hv],by rw [hla,hv]⟩
          rw [← hsi] at l6
          rw [← hla] at l7
          rw [← HSK.out] at z6
          have pc0 := hw.out.1.2.1.box.cell 0 rfl
          have hi0 : (0 : Int) ≤ (i : Int) := by omega
          have hi1 : (i : Int) < (P : Int) := by omega
          clear hv hsi hla hil hkl
          by_cases hA : la ≤ (k : Int)
          · have hAd : decide (la ≤ (k : Int)) = true := decide_eq_true hA
            clear hA
            go_wp2_with fail
            go_roundw
            case rel => exact ⟨i + 1,by omega,by go_num,hw⟩
            case measure => simp [intOf]; omega
          · have hAd : decide (la ≤ (k : Int)) = false := decide_eq_false hA
            have HA : Hid ((k : Int) < la) := by
              have : (k : Int) < la := by omega
              exact this
            clear hA
            by_cases hB : si < 0
            · have hBd : decide (si < 0) = true := decide_eq_true hB
              clear hB
              go_wp2_with fail
              go_roundw
              case rel => exact ⟨i + 1,by omega,by go_num,hw⟩
              case measure => simp [intOf]; omega
            · have hBd : decide (si < 0) = false := decide_eq_false hB
              clear hB
              by_cases hC : sk < 0
              · have hCd : decide (sk < 0) = true := decide_eq_true hC
                clear hC
                go_wp2_with fail
                go_roundw
                case rel => exact ⟨i + 1,by omega,by go_num,hw⟩
                case measure => simp [intOf]; omega
              · have hCd : decide (sk < 0) = false := decide_eq_false hC
                have HC : Hid (0 ≤ sk) := by
                  have : 0 ≤ sk := by omega
                  exact this
                clear hC
                obtain ⟨q5,hq5⟩ : ∃ q,q = wr.heap.size := ⟨_,rfl⟩
                have hnq : n + 1 ≤ q5 := by
                  have := hw.out.1.2.1.lt
                  omega
                obtain ⟨g5,c5,w6,hr,HS6⟩ : ∃ g5 c5 w6,(Builtin.append_ #[31, 31] 31 #[.slice (some ⟨wr.heap.size + 1,0,none⟩) 0 0,.slice (some ⟨b,o,none⟩) P pc]).run Tryz.prog ((wr.alloc (.cells #[.slice (some ⟨b,o,none⟩) P pc,.int .i64 s0,.int .i64 s1,.int .i64 s2,.int .i64 s3,.int .i64 sn,.int .i64 pk] 33)).alloc (.cells #[] 37)) = .ok (.slice (some ⟨g5,0,none⟩) P c5) w6 ∧ Hid (PS w (.slice ga nds.length gc) (.int .i64 out) ⟨x0,y0,x1,y1⟩ ⟨fu,al,ro,da,rm⟩ n n [.slice (some ⟨b,o,none⟩) P pc,.int .i64 s0,.int .i64 s1,.int .i64 s2,.int .i64 s3,.int .i64 sn,.int .i64 pk] (.slice (some ⟨b,o,none⟩) P pc) ps w6 ∧ Below n Wr w6 ∧ TB w6 q5 [.slice (some ⟨b,o,none⟩) P pc,.int .i64 s0,.int .i64 s1,.int .i64 s2,.int .i64 s3,.int .i64 sn,.int .i64 pk] 33 ∧ LP n (q5 + 1) L0 (.slice (some ⟨g5,0,none⟩) P c5) w6 ∧ Below n wr w6) := by
                  have b1 := below_new wr (.cells #[.slice (some ⟨b,o,none⟩) P pc,.int .i64 s0,.int .i64 s1,.int .i64 s2,.int .i64 s3,.int .i64 sn,.int .i64 pk] 33)
                  have b2 := below_new (wr.alloc (.cells #[.slice (some ⟨b,o,none⟩) P pc,.int .i64 s0,.int .i64 s1,.int .i64 s2,.int .i64 s3,.int .i64 sn,.int .i64 pk] 33)) (.cells #[] 37)
                  have t5 := TB.new wr [.slice (some ⟨b,o,none⟩) P pc,.int .i64 s0,.int .i64 s1,.int .i64 s2,.int .i64 s3,.int .i64 sn,.int .i64 pk] 33
                  rw [← hq5] at t5
                  have hsz2 : ((wr.alloc (.cells #[.slice (some ⟨b,o,none⟩) P pc,.int .i64 s0,.int .i64 s1,.int .i64 s2,.int .i64 s3,.int .i64 sn,.int .i64 pk] 33)).alloc (.cells #[] 37)).heap.size = q5 + 1 + 1 := by simp only [size_alloc,hq5]
                  have h2 := (hw.out.1.call b1).call b2
                  have hl2 : Below n Wr ((wr.alloc (.cells #[.slice (some ⟨b,o,none⟩) P pc,.int .i64 s0,.int .i64 s1,.int .i64 s2,.int .i64 s3,.int .i64 sn,.int .i64 pk] 33)).alloc (.cells #[] 37)) := (hw.out.2.trans (b1.mono hw.out.1.2.2.2)).trans (b2.mono (Nat.le_trans hw.out.1.2.2.2 b1.size))
                  have hE : EP n (q5 + 1) [] (.slice (some ⟨wr.heap.size + 1,0,none⟩) 0 0) ((wr.alloc (.cells #[.slice (some ⟨b,o,none⟩) P pc,.int .i64 s0,.int .i64 s1,.int .i64 s2,.int .i64 s3,.int .i64 sn,.int .i64 pk] 33)).alloc (.cells #[] 37)) := .inl ⟨rfl,_,rfl⟩
                  have hsrc := (HRW.out.1.below hl2 HRW.out.2.2).all (c := pc)
                  have e9 := HLP.out
                  rw [show Value.slice (some ⟨b,o,none⟩) L0.length pc = .slice (some ⟨b,o,none⟩) P pc from by rw [e9]] at hsrc
                  obtain ⟨v5,w6,hr,k1,_,_,k4⟩ := hE.append hsrc (by rw [hsz2]; omega) (by omega) (by have := HLP.out; simp; omega)
                  rw [List.nil_append] at k1
                  have hlp : LP n (q5 + 1) L0 v5 w6 := by
                    rcases k1 with ⟨h,_⟩ | ⟨_,h⟩
                    · have := HLP.out; rw [h] at this; simp at this; omega
                    · exact h
                  obtain ⟨g5,c5,rfl,_,_⟩ := World.ownsRow.form hlp.own (by have := HLP.out; omega)
                  rw [HLP.out] at hr hlp
                  exact ⟨g5,c5,w6,hr,h2.call (k4 rfl),hl2.trans ((k4 rfl).mono h2.2.2.2),(t5.call b2).call (k4 rfl),hlp,((b1.mono hw.out.1.2.2.2).trans (b2.mono (Nat.le_trans hw.out.1.2.2.2 b1.size))).trans ((k4 rfl).mono h2.2.2.2)⟩
                have p0 := hw.out.1.2.1.box.cell 0 rfl
                have p1 := hw.out.1.2.1.box.cell 1 rfl
                have p2 := hw.out.1.2.1.box.cell 2 rfl
                have p3 := hw.out.1.2.1.box.cell 3 rfl
                have p4 := hw.out.1.2.1.box.cell 4 rfl
                have p5 := hw.out.1.2.1.box.cell 5 rfl
                have p6 := hw.out.1.2.1.box.cell 6 rfl
                have u0 : ((wr.alloc (.cells #[.slice (some ⟨b,o,none⟩) P pc,.int .i64 s0,.int .i64 s1,.int .i64 s2,.int .i64 s3,.int .i64 sn,.int .i64 pk] 33)).alloc (.cells #[] 37)).cell? ⟨n,0,none⟩ = some (.slice (some ⟨b,o,none⟩) P pc) := by
                  have b1 := below_new wr (.cells #[.slice (some ⟨b,o,none⟩) P pc,.int .i64 s0,.int .i64 s1,.int .i64 s2,.int .i64 s3,.int .i64 sn,.int .i64 pk] 33)
                  have b2 := below_new (wr.alloc (.cells #[.slice (some ⟨b,o,none⟩) P pc,.int .i64 s0,.int .i64 s1,.int .i64 s2,.int .i64 s3,.int .i64 sn,.int .i64 pk] 33)) (.cells #[] 37)
                  exact ((hw.out.1.call b1).call b2).2.1.box.cell 0 rfl
                have u1 := HS6.out.2.2.1.box.cell 0 rfl
                have u2 := HS6.out.2.2.1.box.frozen 0
                rw [hq5] at u1 u2
                go_wp2_with (first | (at_builtin; refine wpList_append_hr rfl _ _ 31 rfl _ _ rfl rfl hr ?_) | fail)
                have HS7 : Hid (PS w (.slice ga nds.length gc) (.int .i64 out) ⟨x0,y0,x1,y1⟩ ⟨fu,al,ro,da,rm⟩ n n [.slice (some ⟨b,o,none⟩) P pc,.int .i64 s0,.int .i64 s1,.int .i64 s2,.int .i64 s3,.int .i64 sn,.int .i64 pk] (.slice (some ⟨b,o,none⟩) P pc) ps (w6.setCell ⟨wr.heap.size,0,none⟩ (.slice (some ⟨g5,0,none⟩) P c5)) ∧ Below n Wr (w6.setCell ⟨wr.heap.size,0,none⟩ (.slice (some ⟨g5,0,none⟩) P c5)) ∧ TB (w6.setCell ⟨wr.heap.size,0,none⟩ (.slice (some ⟨g5,0,none⟩) P c5)) q5 [.slice (some ⟨g5,0,none⟩) P c5,.int .i64 s0,.int .i64 s1,.int .i64 s2,.int .i64 s3,.int .i64 sn,.int .i64 pk] 33 ∧ LP n (q5 + 1) L0 (.slice (some ⟨g5,0,none⟩) P c5) (w6.setCell ⟨wr.heap.size,0,none⟩ (.slice (some ⟨g5,0,none⟩) P c5)) ∧ Below n wr (w6.setCell ⟨wr.heap.size,0,none⟩ (.slice (some ⟨g5,0,none⟩) P c5))) := by
                  have h := HS6.out
                  have hs : Below q5 w6 (w6.setCell ⟨wr.heap.size,0,none⟩ (.slice (some ⟨g5,0,none⟩) P c5)) := (Below.refl _ _).setCell (p := ⟨wr.heap.size,0,none⟩) (Nat.le_of_eq hq5) _
                  have ht := h.2.2.1.put 0 (.slice (some ⟨g5,0,none⟩) P c5)
                  have hl := h.2.2.2.1.setLow (p := ⟨q5,0,none⟩) (Nat.lt_succ_self _) (by show n ≤ q5; omega) (.slice (some ⟨g5,0,none⟩) P c5)
                  rw [← hq5] at hs ⊢
                  exact ⟨h.1.keep hs (by have := HCN.out; omega) (by omega) (by omega),h.2.1.trans (hs.mono (by omega)),ht,hl,h.2.2.2.2.trans (hs.mono (by omega))⟩
                clear hr u0 u1 u2 p0 p1 p2 p3 p4 p5 p6 HS6
                rw [← hq5]
                rw [← hq5] at HS7
                generalize (w6.setCell ⟨q5,0,none⟩ (.slice (some ⟨g5,0,none⟩) P c5)) = W7 at *
                clear hq5
                have y0 := HS7.out.2.2.1.box.cell 0 rfl
                have y1 := HS7.out.1.2.1.box.cell 0 rfl
                have y2 := (HS7.out.2.2.2.2.cell (p := ⟨b,o + i * 8 + 6,none⟩) HRW.out.2.2).trans l6
                have yk0 := fun s : Kept W7.heap.size W7 => s.at y0
                have yk1 := fun s : Kept W7.heap.size W7 => s.at y1
                have yk2 := fun s : Kept W7.heap.size W7 => s.at y2
                clear y0 y1 y2 l6 l7 z6 pc0
                refine wp_region_kept_last W7.heap.size 11 _ rfl rfl (by kernel_rfl) (by kernel_rfl) ?_
                simp only [List.take_succ_cons,List.take_zero]
                repeat (go_big_quiet_step (fail))
                refine wpQuiet_nil ?_
                intro s
                have HL7 : Hid (LP n (q5 + 1) L0 (.slice (some ⟨g5,0,none⟩) L0.length c5) s.w) := by
                  have h := HS7.out.2.2.2.1.call s.below
                  rw [← HLP.out] at h
                  exact h
                obtain ⟨j6,jf6⟩ := HL7.out.cellk HXK.out.1 6 _ rfl
                have HS8 : Hid (PS w (.slice ga nds.length gc) (.int .i64 out) ⟨x0,y0,x1,y1⟩ ⟨fu,al,ro,da,rm⟩ n n [.slice (some ⟨b,o,none⟩) P pc,.int .i64 s0,.int .i64 s1,.int .i64 s2,.int .i64 s3,.int .i64 sn,.int .i64 pk] (.slice (some ⟨b,o,none⟩) P pc) ps (s.w.setCell ⟨g5,k * 8 + 6,none⟩ (.int .i64 si)) ∧ Below n Wr (s.w.setCell ⟨g5,k * 8 + 6,none⟩ (.int .i64 si)) ∧ TB (s.w.setCell ⟨g5,k * 8 + 6,none⟩ (.int .i64 si)) q5 [.slice (some ⟨g5,0,none⟩) P c5,.int .i64 s0,.int .i64 s1,.int .i64 s2,.int .i64 s3,.int .i64 sn,.int .i64 pk] 33 ∧ LP n (q5 + 1) (L0.set k (.slice na y.nodes.length nc,.slice ra y.reads.length rc,{ y with slot := si })) (.slice (some ⟨g5,0,none⟩) P c5) (s.w.setCell ⟨g5,k * 8 + 6,none⟩ (.int .i64 si))) := by
                  have hg5 := (HL7.out.blk g5 rfl).1
                  have hs : Below (q5 + 1) s.w (s.w.setCell ⟨g5,k * 8 + 6,none⟩ (.int .i64 si)) := (Below.refl _ _).setCell (p := ⟨g5,k * 8 + 6,none⟩) hg5 _
                  have h := HS7.out
                  have hl := HL7.out.putk HXK.out.1 6 (by omega) (.int .i64 si) { y with slot := si } rfl rfl rfl
                  rw [HLP.out] at hl
                  exact ⟨(h.1.call s.below).keep hs (by have := HCN.out; omega) (by omega) (by omega),(h.2.1.trans (s.below.mono h.1.2.2.2)).trans (hs.mono (by omega)),(h.2.2.1.call s.below).keep hs (by omega),hl⟩
                refine ⟨steps_plain rfl (gives_mono (R := fun v w' => v = undef ∧ w' = (s.w.setCell ⟨g5,k * 8 + 6,none⟩ (.int .i64 si))) ?_ ?_)⟩
                · simp [gives,go_sem,j6,jf6]
                · rintro _ _ ⟨rfl,rfl⟩
                  clear yk0 yk1 yk2 j6 jf6
                  generalize (s.w.setCell ⟨g5,k * 8 + 6,none⟩ (.int .i64 si)) = W8 at *
                  have hil : i < ps.length := by have := HPL.out; omega
                  have hkl : k < ps.length := by have := HPL.out; omega
                  have hpl : psl (L0.set k (.slice na y.nodes.length nc,.slice ra y.reads.length rc,{ y with slot := si })) = ps.set k { ps.getD k Ps.none with slot := (ps.getD i Ps.none).slot } := by
                    rw [← HXK.out.2,← HSI.out.1,← HRW.out.2.1]
                    simp [psl,List.map_set]
                  have hck := qcheck_c (B := W8.heap.size) (nds := nds) (out := out) (want := ⟨x0,y0,x1,y1⟩) (c := ⟨fu,al,ro,da,rm⟩) (p := ⟨psl (L0.set k (.slice na y.nodes.length nc,.slice ra y.reads.length rc,{ y with slot := si })),⟨s0,s1,s2,s3⟩,sn,pk⟩) W8 ((HG.out.1.below HS8.out.1.1.2.2.2 (Nat.le_refl _)).mono HS8.out.1.1.2.2.2.size) HS8.out.2.2.2.gp (Nat.le_refl _) HP.out.1.gn HP.out.1.rc HP.out.1.ne (ChOk.sub HP.out.1 HP.out.2 HPN.out (by dsimp only; rw [hpl,List.length_set]; omega) (fun z hz => by
                    rw [hpl] at hz
                    rcases List.mem_or_eq_of_mem_set hz with hz | rfl
                    · exact planN_mk HP.out.1 HPN.out z hz
                    · have h1 := planN_mk HP.out.1 HPN.out _ (getD_mem Ps.none hkl)
                      have h2 := planN_mk HP.out.1 HPN.out _ (getD_mem Ps.none hil)
                      exact ⟨h1.ok,h1.nodes,h1.short,h2.slot⟩))
                  have hcf : chkP nds out ⟨x0,y0,x1,y1⟩ ⟨fu,al,ro,da,rm⟩ ⟨psl (L0.set k (.slice na y.nodes.length nc,.slice ra y.reads.length rc,{ y with slot := si })),⟨s0,s1,s2,s3⟩,sn,pk⟩ = false := by
                    rw [hpl]
                    exact same_chk HP.out.1 HPN.out h1 hkl (by rw [← HSI.out.2]; exact HA.out) (by rw [← HXK.out.2,← HSK.out]; exact HC.out)
                  rw [hcf] at hck
                  unfold pnv at hck
                  dsimp only at hck
                  have he : errP false = 12 := rfl
                  rw [he] at hck
                  clear hcf he hpl hil hkl
                  have g0 := HS8.out.1.1.1.cell 0 rfl
                  have g1 := HS8.out.1.1.1.cell 1 rfl
                  obtain ⟨r0,r1,r2,r3⟩ := box4 HS8.out.1.1.2.1
                  obtain ⟨m0,m1,m2,m3,m4,mf⟩ := HS8.out.1.1.conf
                  have x0' := HS8.out.2.2.1.box.cell 0 rfl
                  have x1' := HS8.out.2.2.1.box.cell 1 rfl
                  have x2' := HS8.out.2.2.1.box.cell 2 rfl
                  have x3' := HS8.out.2.2.1.box.cell 3 rfl
                  have x4' := HS8.out.2.2.1.box.cell 4 rfl
                  have x5' := HS8.out.2.2.1.box.cell 5 rfl
                  have x6' := HS8.out.2.2.1.box.cell 6 rfl
                  have hlw : W8.heap.size = W8.heap.size := rfl
                  clear hlw
                  go_wp2_with fail
                  with_reducible refine hck.mono ?_
                  rintro e w9 ⟨rfl,hb⟩
                  have HN : Hid (PS w (.slice ga nds.length gc) (.int .i64 out) ⟨x0,y0,x1,y1⟩ ⟨fu,al,ro,da,rm⟩ n n [.slice (some ⟨b,o,none⟩) P pc,.int .i64 s0,.int .i64 s1,.int .i64 s2,.int .i64 s3,.int .i64 sn,.int .i64 pk] (.slice (some ⟨b,o,none⟩) P pc) ps w9 ∧ Below n Wr w9) := ⟨HS8.out.1.call hb,HS8.out.2.1.trans (hb.mono HS8.out.1.2.2.2)⟩
                  clear hck hb HS8 HS7 HL7 g0 g1 r0 r1 r2 r3 m0 m1 m2 m3 m4 mf x0' x1' x2' x3' x4' x5' x6'
                  go_wp2_with fail
                  go_roundw
                  case rel => exact ⟨i + 1,by omega,by go_num,HN⟩
                  case measure => simp [intOf]; omega
        · have hib : ¬ (i : Int) < (k : Int) := by omega
          go_wp2_with fail
          go_ret
          exact ⟨rfl,hw.out.1.1.2.2.2⟩
end Go.Proofs.YtaoamkbcegadcaaGreatDoor
/-! ### the law -/
namespace Go.Proofs.YtaoamkbcegadcaaGreatDoor
open Go.RowKit Go.Bx Go.Od Go.Hp Go.ChangeShapes Go.WideShapes Go.ChangeAt
set_option linter.unusedVariables false
section
variable {H : Type} {enc : TypeId × Value → H} {W : World} {base : Nat}
theorem u8_arg {v : Value} {d : DataW H} {p : List MemPlace} (h : DataW.Trod enc Tryz.prog W 0 (fun _ => true) true 5 v d p) (hv : Value.okWide Tryz.prog W .any base 5 v) : ∃ a : Nat,v = .int .u8 (a : Int) ∧ a < 256 := by
  obtain ⟨a,rfl,rfl,rfl,wa⟩ := open_int Tryz.underlying5 hv h
  have : decide (IntKind.u8.min ≤ a ∧ a ≤ IntKind.u8.max) = true := by simpa [Lit.wf] using wa
  have h := of_decide_eq_true this
  have h1 : (0 : Int) ≤ a := h.1
  have h2 : a ≤ (255 : Int) := h.2
  exact ⟨a.toNat,by rw [Int.toNat_of_nonneg h1],by omega⟩
theorem proofSpoilt.proofSpoilt_law (W : World) (ht : Tabs W) {v0 v1 v2 v3 : Value} {d0 d1 d2 d3 : DataW H} {p0 p1 p2 p3 : List MemPlace}
    (h0 : DataW.Trod enc Tryz.prog W 0 (fun _ => true) true 24 v0 d0 p0) (h1 : DataW.Trod enc Tryz.prog W 0 (fun _ => true) true 26 v1 d1 p1) (h2 : DataW.Trod enc Tryz.prog W 0 (fun _ => true) true 28 v2 d2 p2) (h3 : DataW.Trod enc Tryz.prog W 0 (fun _ => true) true 5 v3 d3 p3)
    (k0 : Value.okWide Tryz.prog W .any base 24 v0) (k1 : Value.okWide Tryz.prog W .any base 26 v1) (k2 : Value.okWide Tryz.prog W .any base 28 v2) (k3 : Value.okWide Tryz.prog W .any base 5 v3) :
    Calls Tryz.prog 3 #[v0,v1,v2,v3] W (TPost W) := by
  obtain ⟨nv,out,nds,rfl,hg,hout⟩ := graph_arg h0 k0
  obtain ⟨r,rfl⟩ := rect_arg h1 k1
  obtain ⟨c,rfl⟩ := conf_arg h2 k2
  obtain ⟨a8,rfl,ha8⟩ := u8_arg h3 k3
  exact proofSpoilt_walk nv nds out r c a8 ha8 W ht hg
end
end Go.Proofs.YtaoamkbcegadcaaGreatDoor
