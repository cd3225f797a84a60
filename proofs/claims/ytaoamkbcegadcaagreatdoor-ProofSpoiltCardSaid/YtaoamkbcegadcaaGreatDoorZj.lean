/- Texts joined: XZj. -/
import Derived.Test.YtaoamkbcegadcaaGreatDoorZi
set_option maxRecDepth 4000
/- Layer 20: rule 4 (boxes). (Printed by mk_zj.py.) -/
namespace Go.Proofs.YtaoamkbcegadcaaGreatDoor
open Go.RowKit Go.Bx Go.Od Go.Hp
attribute [local go_sem ↓] Go.wp_at_zero Go.wp_at_succ
set_option linter.unusedVariables false

def BQ (n1 m : Nat) (f : Nat → Rc) (t : Rc) (i : Nat) (v : Value) (W : World) : Prop := match i with
  | 8 => ∃ O,n1 ≤ O ∧ v = .tuple #[.slice (some ⟨O,0,none⟩) m m,rv t] ∧ Box W O (rcs (rl m f))
  | 9 => ∃ O,n1 ≤ O ∧ v = .tuple #[.slice (some ⟨O,0,none⟩) m m,rv t] ∧ Box W O (rcs (rl m f))
  | 10 => ∃ O,n1 ≤ O ∧ v = .slice (some ⟨O,0,none⟩) m m ∧ Box W O (rcs (rl m f))
  | 12 => ∃ q,n1 ≤ q ∧ v = .pointer (some ⟨q,0,none⟩) ∧ Box W q (cl4 ⟨0,0,0,0⟩)
  | 13 => ∃ O,n1 ≤ O ∧ v = .slice (some ⟨O,0,none⟩) m m ∧ Box W O (rcs (rl m f))
  | _ => True
theorem BQ.stab {n1 m : Nat} {f : Nat → Rc} {t : Rc} (i : Nat) (v : Value) (W W' : World) (h : BQ n1 m f t i v W) (hb : Below W.heap.size W W') : BQ n1 m f t i v W' := by
  unfold BQ at h ⊢
  split at h
  · obtain ⟨O,h1,h2,h3⟩ := h; exact ⟨O,h1,h2,h3.call hb⟩
  · obtain ⟨O,h1,h2,h3⟩ := h; exact ⟨O,h1,h2,h3.call hb⟩
  · obtain ⟨O,h1,h2,h3⟩ := h; exact ⟨O,h1,h2,h3.call hb⟩
  · obtain ⟨O,h1,h2,h3⟩ := h; exact ⟨O,h1,h2,h3.call hb⟩
  · obtain ⟨O,h1,h2,h3⟩ := h; exact ⟨O,h1,h2,h3.call hb⟩
  · trivial
set_option maxRecDepth 10000 in
set_option maxHeartbeats 6400000 in
theorem qboxes_c {B q m : Nat} {nv pv : Value} {nds : List Nd} {out : Int} {want : Rc} {c : Cf} {p : Pn} (w : World) (hq : QM B q m nv nds out want c pv p w) (hg : GoodN nds out) (hw : RcP want) (hwe : want.emp = false) (hP : p.ps.length ≤ 1000)
    (hok : ∀ y ∈ p.ps,0 < y.nodes.length) (hk : ∀ y ∈ p.ps,∀ k ∈ y.nodes,k < nds.length) :
    Calls Tryz.prog 19 #[.pointer (some ⟨q,0,none⟩)] w (PPost w (.bool (ck4 nds out want p))) := by
  have hna := fun W (hW : Below w.heap.size w W) => all14_c B nv nds out want W hg (hq.call hW).gr (hq.call hW).hB hw
  have htw := hg.two hwe
  obtain ⟨n,hn⟩ : ∃ n,n = nds.length := ⟨_,rfl⟩
  obtain ⟨f,hf⟩ : ∃ f,f = (allN nds want out).1 := ⟨_,rfl⟩
  obtain ⟨t,ht⟩ : ∃ t,t = (allN nds want out).2 := ⟨_,rfl⟩
  have HE0 : Hid (allN nds want out = (f,t)) := by rw [hf,ht]; exact Eq.refl _
  have HTW : Hid (rcs (rl n f) ≠ cl4 ⟨0,0,0,0⟩) := by rw [hn,hf]; exact htw
  rw [HE0.out,← hn] at hna
  have hn9 : n ≤ 100 := by have := hg.few; omega
  obtain ⟨ck,hck⟩ : ∃ ck,ck = ck4 nds out want p := ⟨_,rfl⟩
  have HCK : Hid (ck = ((p.ps.all fun x => wiR (f (resP x)) x.box) && wiR t p.src)) := by
    have : ck = ((p.ps.all fun x => wiR (f (resP x)) x.box) && wiR t p.src) := by rw [hck]; unfold ck4 bxN; rw [HE0.out]
    exact this
  have HN : Hid (n = nds.length) := hn
  rw [← hck]
  have HH : Hid ((∀ y ∈ p.ps,0 < y.nodes.length) ∧ ∀ y ∈ p.ps,resP y < n) := ⟨hok,fun y hy => by
    rw [hn]
    exact hk y hy _ (lastN_in fun e => by have := hok y hy; rw [e] at this; exact absurd this (by decide))⟩
  obtain ⟨P,hPe⟩ : ∃ P,P = p.ps.length := ⟨_,rfl⟩
  have HPE : Hid (P = p.ps.length) := hPe
  rw [← hPe] at hP
  obtain ⟨a,cap,rfl⟩ := hq.sl
  obtain ⟨wx0,wy0,wx1,wy1⟩ := want
  have HNA : Hid (∀ W,Below w.heap.size w W → Calls Tryz.prog 26 #[.agg #[nv,.int .i64 out],.agg #[.int .i64 wx0,.int .i64 wy0,.int .i64 wx1,.int .i64 wy1]] W (NaPost W n (f,t))) := hna
  have HQ : Hid (QM B q m nv nds out ⟨wx0,wy0,wx1,wy1⟩ c (.slice a p.ps.length cap) p w) := hq
  clear hq hg hw hwe hok hk hna htw hf ht hck hn hPe HE0
  go_enter Tryz.func19,Tryz.ntmps19
  go_wp2_with fail
  rename_i K hK
  refine wp_region_mono (QT [.pointer (some ⟨q,0,none⟩),.pointer (some ⟨q,0,none⟩),.pointer (some ⟨q,0,none⟩),.agg #[nv,.int .i64 out],.pointer (some ⟨q,0,none⟩),.pointer (some ⟨q,0,none⟩),.pointer (some ⟨q,2,none⟩),.agg #[.int .i64 wx0,.int .i64 wy0,.int .i64 wx1,.int .i64 wy1],undef,undef,undef,(rv t),undef,undef] [8,9,10,12,13] (BQ w.heap.size n f t)) 14 _ rfl rfl (by kernel_rfl) (by kernel_rfl) (QT.stab BQ.stab) ?hop ?hlast
  case hop =>
    refine Each.get (n := 14) ⟨⟨⟨⟨⟨⟨⟨⟨⟨⟨⟨⟨⟨⟨trivial,?h0⟩,?h1⟩,?h2⟩,?h3⟩,?h4⟩,?h5⟩,?h6⟩,?h7⟩,?h8⟩,?h9⟩,?h10⟩,?h11⟩,?h12⟩,?h13⟩
    case h0 =>
      refine OpOk.plain (by kernel_rfl) _ rfl rfl fun vs ev W hf hb hd => ?_
      have e0 : ev (.tmp 0) = .pointer (some ⟨q,0,none⟩) := hf.off 0 rfl
      clear hK
      exact gives_mono (R := fun v w' => v = .pointer (some ⟨q,0,none⟩) ∧ w' = W) (by simp [gives,go_sem,e0]) fun _ _ ⟨h1,h2⟩ => by subst h2; exact ⟨.inr ⟨by decide,h1⟩,Below.refl _ _⟩
    case h1 =>
      refine OpOk.plain (by kernel_rfl) _ rfl rfl fun vs ev W hf hb hd => ?_
      have e0 : ev (.tmp 8) = .pointer (some ⟨q,0,none⟩) := (hf.of 0 _ 8 rfl rfl rfl (of_decide_eq_true rfl)).trans ((hd 0 (by kernel_rfl)).val (by decide))
      clear hK
      exact gives_mono (R := fun v w' => v = .pointer (some ⟨q,0,none⟩) ∧ w' = W) (by simp [gives,go_sem,e0]) fun _ _ ⟨h1,h2⟩ => by subst h2; exact ⟨.inr ⟨by decide,h1⟩,Below.refl _ _⟩
    case h2 =>
      refine OpOk.plain (by kernel_rfl) _ rfl rfl fun vs ev W hf hb hd => ?_
      have e0 : ev (.tmp 9) = .pointer (some ⟨q,0,none⟩) := (hf.of 1 _ 9 rfl rfl rfl (of_decide_eq_true rfl)).trans ((hd 1 (by kernel_rfl)).val (by decide))
      clear hK
      exact gives_mono (R := fun v w' => v = .pointer (some ⟨q,0,none⟩) ∧ w' = W) (by simp [gives,go_sem,e0]) fun _ _ ⟨h1,h2⟩ => by subst h2; exact ⟨.inr ⟨by decide,h1⟩,Below.refl _ _⟩
    case h3 =>
      refine OpOk.plain (by kernel_rfl) _ rfl rfl fun vs ev W hf hb hd => ?_
      have e0 : ev (.tmp 10) = .pointer (some ⟨q,0,none⟩) := (hf.of 2 _ 10 rfl rfl rfl (of_decide_eq_true rfl)).trans ((hd 2 (by kernel_rfl)).val (by decide))
      have d0 := (HQ.out.call hb).box.cell 0 rfl
      have d1 := (HQ.out.call hb).box.cell 1 rfl
      clear hK
      exact gives_mono (R := fun v w' => v = .agg #[nv,.int .i64 out] ∧ w' = W) (by simp [gives,go_sem,e0,d0,d1]) fun _ _ ⟨h1,h2⟩ => by subst h2; exact ⟨.inr ⟨by decide,h1⟩,Below.refl _ _⟩
    case h4 =>
      refine OpOk.plain (by kernel_rfl) _ rfl rfl fun vs ev W hf hb hd => ?_
      have e0 : ev (.tmp 0) = .pointer (some ⟨q,0,none⟩) := hf.off 0 rfl
      clear hK
      exact gives_mono (R := fun v w' => v = .pointer (some ⟨q,0,none⟩) ∧ w' = W) (by simp [gives,go_sem,e0]) fun _ _ ⟨h1,h2⟩ => by subst h2; exact ⟨.inr ⟨by decide,h1⟩,Below.refl _ _⟩
    case h5 =>
      refine OpOk.plain (by kernel_rfl) _ rfl rfl fun vs ev W hf hb hd => ?_
      have e0 : ev (.tmp 12) = .pointer (some ⟨q,0,none⟩) := (hf.of 4 _ 12 rfl rfl rfl (of_decide_eq_true rfl)).trans ((hd 4 (by kernel_rfl)).val (by decide))
      clear hK
      exact gives_mono (R := fun v w' => v = .pointer (some ⟨q,0,none⟩) ∧ w' = W) (by simp [gives,go_sem,e0]) fun _ _ ⟨h1,h2⟩ => by subst h2; exact ⟨.inr ⟨by decide,h1⟩,Below.refl _ _⟩
    case h6 =>
      refine OpOk.plain (by kernel_rfl) _ rfl rfl fun vs ev W hf hb hd => ?_
      have e0 : ev (.tmp 13) = .pointer (some ⟨q,0,none⟩) := (hf.of 5 _ 13 rfl rfl rfl (of_decide_eq_true rfl)).trans ((hd 5 (by kernel_rfl)).val (by decide))
      clear hK
      exact gives_mono (R := fun v w' => v = .pointer (some ⟨q,2,none⟩) ∧ w' = W) (by simp [gives,go_sem,e0]) fun _ _ ⟨h1,h2⟩ => by subst h2; exact ⟨.inr ⟨by decide,h1⟩,Below.refl _ _⟩
    case h7 =>
      refine OpOk.plain (by kernel_rfl) _ rfl rfl fun vs ev W hf hb hd => ?_
      have e0 : ev (.tmp 14) = .pointer (some ⟨q,2,none⟩) := (hf.of 6 _ 14 rfl rfl rfl (of_decide_eq_true rfl)).trans ((hd 6 (by kernel_rfl)).val (by decide))
      have d0 := (HQ.out.call hb).box.cell 2 rfl
      have d1 := (HQ.out.call hb).box.cell 3 rfl
      have d2 := (HQ.out.call hb).box.cell 4 rfl
      have d3 := (HQ.out.call hb).box.cell 5 rfl
      clear hK
      exact gives_mono (R := fun v w' => v = .agg #[.int .i64 wx0,.int .i64 wy0,.int .i64 wx1,.int .i64 wy1] ∧ w' = W) (by simp [gives,go_sem,e0,d0,d1,d2,d3]) fun _ _ ⟨h1,h2⟩ => by subst h2; exact ⟨.inr ⟨by decide,h1⟩,Below.refl _ _⟩
    case h8 =>
      refine OpOk.plain (by kernel_rfl) _ rfl rfl fun vs ev W hf hb hd => ?_
      have e0 : ev (.tmp 11) = .agg #[nv,.int .i64 out] := (hf.of 3 _ 11 rfl rfl rfl (of_decide_eq_true rfl)).trans ((hd 3 (by kernel_rfl)).val (by decide))
      have e1 : ev (.tmp 15) = .agg #[.int .i64 wx0,.int .i64 wy0,.int .i64 wx1,.int .i64 wy1] := (hf.of 7 _ 15 rfl rfl rfl (of_decide_eq_true rfl)).trans ((hd 7 (by kernel_rfl)).val (by decide))
      refine gives_mono (R := fun v w' => ∃ e,e = Ending.returned v ∧ NaPost W n (f,t) e w') ?_ ?_
      · have hc := HNA.out W hb
        clear hK
        have ef := hf.func 26
        simp [gives,execOp,resolve,invoke,e0,e1,ef,go_sem]
        exact hc.mono fun e w' h => by
          obtain ⟨O,hO,he,h2⟩ := h
          exact ⟨_,he,O,hO,rfl,h2⟩
      · rintro v w' ⟨e,he,O,hO,he2,h2,h3⟩
        rw [he] at he2
        cases he2
        exact ⟨.inl ⟨by decide,O,Nat.le_trans hb.size hO,rfl,h2⟩,h3⟩
    case h9 =>
      refine OpOk.plain (by kernel_rfl) _ rfl rfl fun vs ev W hf hb hd => ?_
      obtain ⟨O,h1',h2',h3'⟩ := (hd 8 (by kernel_rfl)).spec (by decide)
      have e0 := (hf.of 8 _ 16 rfl rfl rfl (of_decide_eq_true rfl)).trans h2'
      clear hK
      exact gives_mono (R := fun v w' => v = .tuple #[.slice (some ⟨O,0,none⟩) n n,rv t] ∧ w' = W) (by simp [gives,go_sem,e0]) fun _ _ ⟨h1,h2⟩ => by subst h2; exact ⟨.inl ⟨by decide,by subst h1; exact ⟨O,h1',rfl,h3'⟩⟩,Below.refl _ _⟩
    case h10 =>
      refine OpOk.plain (by kernel_rfl) _ rfl rfl fun vs ev W hf hb hd => ?_
      obtain ⟨O,h1',h2',h3'⟩ := (hd 9 (by kernel_rfl)).spec (by decide)
      have e0 := (hf.of 9 _ 7 rfl rfl rfl (of_decide_eq_true rfl)).trans h2'
      clear hK
      exact gives_mono (R := fun v w' => v = .slice (some ⟨O,0,none⟩) n n ∧ w' = W) (by simp [gives,go_sem,e0]) fun _ _ ⟨h1,h2⟩ => by subst h2; exact ⟨.inl ⟨by decide,by subst h1; exact ⟨O,h1',rfl,h3'⟩⟩,Below.refl _ _⟩
    case h11 =>
      refine OpOk.plain (by kernel_rfl) _ rfl rfl fun vs ev W hf hb hd => ?_
      obtain ⟨O,h1',h2',h3'⟩ := (hd 9 (by kernel_rfl)).spec (by decide)
      have e0 := (hf.of 9 _ 7 rfl rfl rfl (of_decide_eq_true rfl)).trans h2'
      clear hK
      exact gives_mono (R := fun v w' => v = (rv t) ∧ w' = W) (by simp [gives,go_sem,e0]) fun _ _ ⟨h1,h2⟩ => by subst h2; exact ⟨.inr ⟨by decide,h1⟩,Below.refl _ _⟩
    case h12 =>
      refine OpOk.plain (by kernel_rfl) _ rfl rfl fun vs ev W hf hb hd => ?_
      clear hK
      refine gives_mono (R := fun v w' => v = .pointer (some ⟨W.heap.size,0,none⟩) ∧ w' = W.alloc (.cells (cs4 0 0 0 0) 26)) (by simp [gives,go_sem]) ?_
      rintro _ _ ⟨rfl,rfl⟩
      exact ⟨.inl ⟨by decide,_,hb.size,rfl,Box.new W _ _⟩,below_alloc _ _⟩
    case h13 =>
      refine OpOk.plain (by kernel_rfl) _ rfl rfl fun vs ev W hf hb hd => ?_
      obtain ⟨O,h1',h2',h3'⟩ := (hd 10 (by kernel_rfl)).spec (by decide)
      have e0 := (hf.of 10 _ 17 rfl rfl rfl (of_decide_eq_true rfl)).trans h2'
      clear hK
      exact gives_mono (R := fun v w' => v = .slice (some ⟨O,0,none⟩) n n ∧ w' = W) (by simp [gives,go_sem,e0]) fun _ _ ⟨h1,h2⟩ => by subst h2; exact ⟨.inl ⟨by decide,by subst h1; exact ⟨O,h1',rfl,h3'⟩⟩,Below.refl _ _⟩
  case hlast =>
  intro vs W hb hT
  have t11 := (hT 11 (by decide)).val (by decide)
  obtain ⟨tb,n12,h12,x12⟩ := (hT 12 (by decide)).spec (by decide)
  obtain ⟨O,n13,h13,x13⟩ := (hT 13 (by decide)).spec (by decide)
  refine last_plain (by kernel_rfl) rfl fun F ev hF hf => ?_
  have e1 : ev (.tmp 18) = rv t := (hf.of 11 _ 18 rfl rfl rfl (of_decide_eq_true rfl)).trans t11
  have e2 := (hf.of 12 _ 4 rfl rfl rfl (of_decide_eq_true rfl)).trans h12
  obtain ⟨q0,q1,q2,q3⟩ := box4 x12
  have f0 := x12.frozen 0
  have f1 := x12.frozen 1
  have f2 := x12.frozen 2
  have f3 := x12.frozen 3
  have H3 : Hid (Below w.heap.size w ((((W.setCell ⟨tb,0,none⟩ (.int .i64 t.x0)).setCell ⟨tb,1,none⟩ (.int .i64 t.y0)).setCell ⟨tb,2,none⟩ (.int .i64 t.x1)).setCell ⟨tb,3,none⟩ (.int .i64 t.y1)) ∧ Box ((((W.setCell ⟨tb,0,none⟩ (.int .i64 t.x0)).setCell ⟨tb,1,none⟩ (.int .i64 t.y0)).setCell ⟨tb,2,none⟩ (.int .i64 t.x1)).setCell ⟨tb,3,none⟩ (.int .i64 t.y1)) O (rcs (rl n f)) ∧ Box ((((W.setCell ⟨tb,0,none⟩ (.int .i64 t.x0)).setCell ⟨tb,1,none⟩ (.int .i64 t.y0)).setCell ⟨tb,2,none⟩ (.int .i64 t.x1)).setCell ⟨tb,3,none⟩ (.int .i64 t.y1)) tb (cl4 t)) := by
    have hne : O ≠ tb := fun e => HTW.out (boxTwo (e ▸ x13) x12)
    exact ⟨(((hb.setCell n12 _).setCell n12 _).setCell n12 _).setCell n12 _,(((x13.set hne _).set hne _).set hne _).set hne _,set4_box x12 _ _ _ _⟩
  refine gives_mono (R := fun v w' => v = undef ∧ w' = ((((W.setCell ⟨tb,0,none⟩ (.int .i64 t.x0)).setCell ⟨tb,1,none⟩ (.int .i64 t.y0)).setCell ⟨tb,2,none⟩ (.int .i64 t.x1)).setCell ⟨tb,3,none⟩ (.int .i64 t.y1))) (by simp [gives,go_sem,e1,e2,q0,q1,q2,q3,f0,f1,f2,f3]) ?_
  rintro _ _ ⟨rfl,rfl⟩
  subst hF
  simp [fr,Act.put,t11,h12,h13]
  generalize vs 0 = u0 at *
  generalize vs 1 = u1 at *
  generalize vs 2 = u2 at *
  generalize vs 3 = u3 at *
  generalize vs 4 = u4 at *
  generalize vs 5 = u5 at *
  generalize vs 6 = u6 at *
  generalize vs 7 = u7 at *
  generalize vs 8 = u8 at *
  generalize vs 9 = u9 at *
  generalize vs 10 = u10 at *
  generalize vs 11 = u11 at *
  generalize vs 12 = u12 at *
  generalize vs 13 = u13 at *
  clear hT hf t11 e1 e2 h12 h13
  refine hK _ _ ?_
  clear hK x12 x13 n12 n13 hb q0 q1 q2 q3 f0 f1 f2 f3 HNA HTW
  generalize ((((W.setCell ⟨tb,0,none⟩ (.int .i64 t.x0)).setCell ⟨tb,1,none⟩ (.int .i64 t.y0)).setCell ⟨tb,2,none⟩ (.int .i64 t.x1)).setCell ⟨tb,3,none⟩ (.int .i64 t.y1)) = W3 at *
  clear W
  rename World => W5
  obtain ⟨b5,x5o,x5t⟩ : Below w.heap.size w W5 ∧ Box W5 O (rcs (rl n f)) ∧ Box W5 tb (cl4 t) := H3.out
  have hq11 := (HQ.out.call b5).box.cell 11 rfl
  rw [← HPE.out] at hq11
  clear b5 x5o x5t
  go_wp2_with fail
  go_loopw [25] (fun iv wr => ∃ i : Nat,i ≤ P ∧ iv = .int .i64 i ∧ Hid (∀ u,u < i → wiR (f (resP (p.ps.getD u Ps.none))) (p.ps.getD u Ps.none).box = true) ∧ Hid (Below w.heap.size w wr ∧ Box wr O (rcs (rl n f)) ∧ Box wr tb (cl4 t))) (fun iv _ => P - (intOf iv).toNat)
  case atStart => exact ⟨0,by omega,rfl,(fun u hu => by omega),H3.out⟩
  case round =>
    obtain ⟨i,hi,rfl,hall,hb⟩ := hrel
    by_cases h1 : i < P
    · have hip : i < p.ps.length := by rw [← HPE.out]; exact h1
      have HIP : Hid (i < p.ps.length) := hip
      obtain ⟨y,hy⟩ : ∃ y,y = p.ps.getD i Ps.none := ⟨_,rfl⟩
      have HY : Hid (y = p.ps.getD i Ps.none) := hy
      have hym : y ∈ p.ps := by rw [hy]; exact getD_mem _ hip
      have HQ2 : Hid (QM B q m nv nds out ⟨wx0,wy0,wx1,wy1⟩ c (.slice a p.ps.length cap) p wr) := HQ.out.call hb.out.1
      obtain ⟨b,o,na,nc,ra,rc,rfl,hbB,hpc,hs1,hs2⟩ := HQ2.out.gp.at hip hy
      obtain ⟨k0,k1,k2,k3,k4,k5,k6,k7⟩ := hpc
      have hrl := HH.out.2 y hym
      have hres := fun W (hW : Below wr.heap.size wr W) => qresult_c na y.nodes.length nc ra y.reads.length rc y W rfl (HH.out.1 y hym) (sl_below hs1 (hW.mono HQ2.out.hB))
      obtain ⟨z,hz⟩ : ∃ z,z = resP y := ⟨_,rfl⟩
      rw [← hz] at hrl hres
      have HZ : Hid (z = resP y) := hz
      obtain ⟨o0,o1,o2,o3⟩ := rbox_get hb.out.2.1 (rl_get f hrl)
      obtain ⟨fz,hfz⟩ : ∃ r,r = f z := ⟨_,rfl⟩
      have HFZ : Hid (fz = f z) := hfz
      rw [← hfz] at o0 o1 o2 o3
      obtain ⟨g0,g1,g2,g3⟩ := fz
      obtain ⟨L,hL⟩ : ∃ L,L = y.nodes.length := ⟨_,rfl⟩
      obtain ⟨rl0,hrl0⟩ : ∃ l,l = y.reads.length := ⟨_,rfl⟩
      rw [← hL] at k0 hres
      rw [← hrl0] at k1 hres
      obtain ⟨nodes,reads,⟨b0,b1,b2,b3⟩,sl,la⟩ := y
      dsimp only at k0 k1 k2 k3 k4 k5 k6 k7 o0 o1 o2 o3
      have X := Box.new wr [.slice na L nc,.slice ra rl0 rc,.int .i64 b0,.int .i64 b1,.int .i64 b2,.int .i64 b3,.int .i64 sl,.int .i64 la] 37
      have x0 := X.cell 0 rfl
      have x1 := X.cell 1 rfl
      have x2 := X.cell 2 rfl
      have x3 := X.cell 3 rfl
      have x4 := X.cell 4 rfl
      have x5 := X.cell 5 rfl
      have x6 := X.cell 6 rfl
      have x7 := X.cell 7 rfl
      have hbn := below_new wr (.cells #[.slice na L nc,.slice ra rl0 rc,.int .i64 b0,.int .i64 b1,.int .i64 b2,.int .i64 b3,.int .i64 sl,.int .i64 la] 37)
      have HBN : Hid (Below w.heap.size w (wr.alloc (.cells #[.slice na L nc,.slice ra rl0 rc,.int .i64 b0,.int .i64 b1,.int .i64 b2,.int .i64 b3,.int .i64 sl,.int .i64 la] 37))) := hb.out.1.trans (hbn.mono hb.out.1.size)
      have HBO : Hid (Box (wr.alloc (.cells #[.slice na L nc,.slice ra rl0 rc,.int .i64 b0,.int .i64 b1,.int .i64 b2,.int .i64 b3,.int .i64 sl,.int .i64 la] 37)) O (rcs (rl n f)) ∧ Box (wr.alloc (.cells #[.slice na L nc,.slice ra rl0 rc,.int .i64 b0,.int .i64 b1,.int .i64 b2,.int .i64 b3,.int .i64 sl,.int .i64 la] 37)) tb (cl4 t)) := ⟨hb.out.2.1.call hbn,hb.out.2.2.call hbn⟩
      have o0 := (hbn.cell (lt_of_cell o0)).trans o0
      have o1 := (hbn.cell (lt_of_cell o1)).trans o1
      have o2 := (hbn.cell (lt_of_cell o2)).trans o2
      have o3 := (hbn.cell (lt_of_cell o3)).trans o3
      have kk0 := fun s : Kept (wr.alloc (.cells #[.slice na L nc,.slice ra rl0 rc,.int .i64 b0,.int .i64 b1,.int .i64 b2,.int .i64 b3,.int .i64 sl,.int .i64 la] 37)).heap.size (wr.alloc (.cells #[.slice na L nc,.slice ra rl0 rc,.int .i64 b0,.int .i64 b1,.int .i64 b2,.int .i64 b3,.int .i64 sl,.int .i64 la] 37)) => s.at x0
      have kk1 := fun s : Kept (wr.alloc (.cells #[.slice na L nc,.slice ra rl0 rc,.int .i64 b0,.int .i64 b1,.int .i64 b2,.int .i64 b3,.int .i64 sl,.int .i64 la] 37)).heap.size (wr.alloc (.cells #[.slice na L nc,.slice ra rl0 rc,.int .i64 b0,.int .i64 b1,.int .i64 b2,.int .i64 b3,.int .i64 sl,.int .i64 la] 37)) => s.at x1
      have kk2 := fun s : Kept (wr.alloc (.cells #[.slice na L nc,.slice ra rl0 rc,.int .i64 b0,.int .i64 b1,.int .i64 b2,.int .i64 b3,.int .i64 sl,.int .i64 la] 37)).heap.size (wr.alloc (.cells #[.slice na L nc,.slice ra rl0 rc,.int .i64 b0,.int .i64 b1,.int .i64 b2,.int .i64 b3,.int .i64 sl,.int .i64 la] 37)) => s.at x2
      have kk3 := fun s : Kept (wr.alloc (.cells #[.slice na L nc,.slice ra rl0 rc,.int .i64 b0,.int .i64 b1,.int .i64 b2,.int .i64 b3,.int .i64 sl,.int .i64 la] 37)).heap.size (wr.alloc (.cells #[.slice na L nc,.slice ra rl0 rc,.int .i64 b0,.int .i64 b1,.int .i64 b2,.int .i64 b3,.int .i64 sl,.int .i64 la] 37)) => s.at x3
      have kk4 := fun s : Kept (wr.alloc (.cells #[.slice na L nc,.slice ra rl0 rc,.int .i64 b0,.int .i64 b1,.int .i64 b2,.int .i64 b3,.int .i64 sl,.int .i64 la] 37)).heap.size (wr.alloc (.cells #[.slice na L nc,.slice ra rl0 rc,.int .i64 b0,.int .i64 b1,.int .i64 b2,.int .i64 b3,.int .i64 sl,.int .i64 la] 37)) => s.at x4
      have kk5 := fun s : Kept (wr.alloc (.cells #[.slice na L nc,.slice ra rl0 rc,.int .i64 b0,.int .i64 b1,.int .i64 b2,.int .i64 b3,.int .i64 sl,.int .i64 la] 37)).heap.size (wr.alloc (.cells #[.slice na L nc,.slice ra rl0 rc,.int .i64 b0,.int .i64 b1,.int .i64 b2,.int .i64 b3,.int .i64 sl,.int .i64 la] 37)) => s.at x5
      have kk6 := fun s : Kept (wr.alloc (.cells #[.slice na L nc,.slice ra rl0 rc,.int .i64 b0,.int .i64 b1,.int .i64 b2,.int .i64 b3,.int .i64 sl,.int .i64 la] 37)).heap.size (wr.alloc (.cells #[.slice na L nc,.slice ra rl0 rc,.int .i64 b0,.int .i64 b1,.int .i64 b2,.int .i64 b3,.int .i64 sl,.int .i64 la] 37)) => s.at x6
      have kk7 := fun s : Kept (wr.alloc (.cells #[.slice na L nc,.slice ra rl0 rc,.int .i64 b0,.int .i64 b1,.int .i64 b2,.int .i64 b3,.int .i64 sl,.int .i64 la] 37)).heap.size (wr.alloc (.cells #[.slice na L nc,.slice ra rl0 rc,.int .i64 b0,.int .i64 b1,.int .i64 b2,.int .i64 b3,.int .i64 sl,.int .i64 la] 37)) => s.at x7
      have kk8 := fun s : Kept (wr.alloc (.cells #[.slice na L nc,.slice ra rl0 rc,.int .i64 b0,.int .i64 b1,.int .i64 b2,.int .i64 b3,.int .i64 sl,.int .i64 la] 37)).heap.size (wr.alloc (.cells #[.slice na L nc,.slice ra rl0 rc,.int .i64 b0,.int .i64 b1,.int .i64 b2,.int .i64 b3,.int .i64 sl,.int .i64 la] 37)) => s.at o0
      have kk9 := fun s : Kept (wr.alloc (.cells #[.slice na L nc,.slice ra rl0 rc,.int .i64 b0,.int .i64 b1,.int .i64 b2,.int .i64 b3,.int .i64 sl,.int .i64 la] 37)).heap.size (wr.alloc (.cells #[.slice na L nc,.slice ra rl0 rc,.int .i64 b0,.int .i64 b1,.int .i64 b2,.int .i64 b3,.int .i64 sl,.int .i64 la] 37)) => s.at o1
      have kk10 := fun s : Kept (wr.alloc (.cells #[.slice na L nc,.slice ra rl0 rc,.int .i64 b0,.int .i64 b1,.int .i64 b2,.int .i64 b3,.int .i64 sl,.int .i64 la] 37)).heap.size (wr.alloc (.cells #[.slice na L nc,.slice ra rl0 rc,.int .i64 b0,.int .i64 b1,.int .i64 b2,.int .i64 b3,.int .i64 sl,.int .i64 la] 37)) => s.at o2
      have kk11 := fun s : Kept (wr.alloc (.cells #[.slice na L nc,.slice ra rl0 rc,.int .i64 b0,.int .i64 b1,.int .i64 b2,.int .i64 b3,.int .i64 sl,.int .i64 la] 37)).heap.size (wr.alloc (.cells #[.slice na L nc,.slice ra rl0 rc,.int .i64 b0,.int .i64 b1,.int .i64 b2,.int .i64 b3,.int .i64 sl,.int .i64 la] 37)) => s.at o3
      have HA1 : Hid (∀ s : Kept (wr.alloc (.cells #[.slice na L nc,.slice ra rl0 rc,.int .i64 b0,.int .i64 b1,.int .i64 b2,.int .i64 b3,.int .i64 sl,.int .i64 la] 37)).heap.size (wr.alloc (.cells #[.slice na L nc,.slice ra rl0 rc,.int .i64 b0,.int .i64 b1,.int .i64 b2,.int .i64 b3,.int .i64 sl,.int .i64 la] 37)),Calls Tryz.prog 40 #[.agg #[.slice na L nc,.slice ra rl0 rc,.int .i64 b0,.int .i64 b1,.int .i64 b2,.int .i64 b3,.int .i64 sl,.int .i64 la]] s.w (PPost s.w (.int .i64 z))) := fun s => hres s.w (hbn.trans (s.below.mono hbn.size))
      obtain ⟨e,he⟩ : ∃ e,e = wiR ⟨g0,g1,g2,g3⟩ ⟨b0,b1,b2,b3⟩ := ⟨_,rfl⟩
      have HA2 : Hid (∀ s : Kept (wr.alloc (.cells #[.slice na L nc,.slice ra rl0 rc,.int .i64 b0,.int .i64 b1,.int .i64 b2,.int .i64 b3,.int .i64 sl,.int .i64 la] 37)).heap.size (wr.alloc (.cells #[.slice na L nc,.slice ra rl0 rc,.int .i64 b0,.int .i64 b1,.int .i64 b2,.int .i64 b3,.int .i64 sl,.int .i64 la] 37)),Calls Tryz.prog 39 #[.agg #[.int .i64 g0,.int .i64 g1,.int .i64 g2,.int .i64 g3],.agg #[.int .i64 b0,.int .i64 b1,.int .i64 b2,.int .i64 b3]] s.w (PPost s.w (.bool e))) := fun s => by
        rw [he]
        exact within_c ⟨g0,g1,g2,g3⟩ ⟨b0,b1,b2,b3⟩ s.w
      have HFJ : Hid (wiR (f (resP (p.ps.getD i Ps.none))) (p.ps.getD i Ps.none).box = e) := by
        have : wiR (f (resP (p.ps.getD i Ps.none))) (p.ps.getD i Ps.none).box = e := by rw [← HY.out,← HZ.out,← HFZ.out,he]
        exact this
      have hz0 : (0 : Int) ≤ (z : Int) := by omega
      have hz1 : (z : Int) < (n : Int) := by omega
      have hi0 : (0 : Int) ≤ (i : Int) := by omega
      have hi1 : (i : Int) < (P : Int) := by omega
      clear hy hip hym hs1 hs2 hres hz hrl hfz hL hrl0 hbn X he
      cases e with
      | false =>
        have HE : Hid (ck = false) := by
          have : ck = false := by
            rw [HCK.out,all_false (f := fun x => wiR (f (resP x)) x.box) (x := p.ps.getD i Ps.none) (getD_mem _ HIP.out) HFJ.out]; rfl
          exact this
        go_wp2_with fail
        refine wp_region_kept (wr.alloc (.cells #[.slice na L nc,.slice ra rl0 rc,.int .i64 b0,.int .i64 b1,.int .i64 b2,.int .i64 b3,.int .i64 sl,.int .i64 la] 37)).heap.size (by kernel_rfl) (by kernel_rfl) ?_
        repeat (go_big_quiet_step (first | (go_at_call 40; with_reducible exact Calls.kept _ (Nat.le_refl _) (HA1.out _)) | (go_at_call 39; with_reducible exact Calls.kept _ (Nat.le_refl _) (HA2.out _))))
        refine wpQuiet_nil ?_
        rintro _ ⟨s,rfl⟩
        have HE5 : Hid (Below w.heap.size w s.w) := HBN.out.trans (s.below.mono HBN.out.size)
        clear kk0 kk1 kk2 kk3 kk4 kk5 kk6 kk7 kk8 kk9 kk10 kk11 HA1 HA2
        go_wp2_with fail
        go_ret
        exact ⟨ret_b HE.out.symm,HE5.out⟩
      | true =>
        have HALL : Hid (∀ u,u < i + 1 → wiR (f (resP (p.ps.getD u Ps.none))) (p.ps.getD u Ps.none).box = true) := fun u hu => by
          by_cases e : u = i
          · subst e; exact HFJ.out
          · exact hall.out u (by omega)
        go_wp2_with fail
        refine wp_region_kept (wr.alloc (.cells #[.slice na L nc,.slice ra rl0 rc,.int .i64 b0,.int .i64 b1,.int .i64 b2,.int .i64 b3,.int .i64 sl,.int .i64 la] 37)).heap.size (by kernel_rfl) (by kernel_rfl) ?_
        repeat (go_big_quiet_step (first | (go_at_call 40; with_reducible exact Calls.kept _ (Nat.le_refl _) (HA1.out _)) | (go_at_call 39; with_reducible exact Calls.kept _ (Nat.le_refl _) (HA2.out _))))
        refine wpQuiet_nil ?_
        rintro _ ⟨s,rfl⟩
        have HE5 : Hid (Below w.heap.size w s.w) := HBN.out.trans (s.below.mono HBN.out.size)
        have HE6 : Hid (Below w.heap.size w s.w ∧ Box s.w O (rcs (rl n f)) ∧ Box s.w tb (cl4 t)) := ⟨HE5.out,HBO.out.1.call s.below,HBO.out.2.call s.below⟩
        clear kk0 kk1 kk2 kk3 kk4 kk5 kk6 kk7 kk8 kk9 kk10 kk11 HA1 HA2
        go_wp2_with fail
        go_roundw
        case rel => exact ⟨i + 1,by omega,by go_num,HALL,HE6⟩
        case measure => simp [intOf]; omega
    · have ei : i = P := by omega
      obtain ⟨t0,t1,t2,t3⟩ := t
      obtain ⟨t0c,t1c,t2c,t3c⟩ := box4 hb.out.2.2
      have HQ2 : Hid (QM B q m nv nds out ⟨wx0,wy0,wx1,wy1⟩ c (.slice a p.ps.length cap) p wr) := HQ.out.call hb.out.1
      obtain ⟨ps,⟨s0,s1,s2,s3⟩,sn,pk⟩ := p
      have c0 := HQ2.out.box.cell 12 rfl
      have c1 := HQ2.out.box.cell 13 rfl
      have c2 := HQ2.out.box.cell 14 rfl
      have c3 := HQ2.out.box.cell 15 rfl
      have kk0 := fun s : Kept wr.heap.size wr => s.at t0c
      have kk1 := fun s : Kept wr.heap.size wr => s.at t1c
      have kk2 := fun s : Kept wr.heap.size wr => s.at t2c
      have kk3 := fun s : Kept wr.heap.size wr => s.at t3c
      have kk4 := fun s : Kept wr.heap.size wr => s.at c0
      have kk5 := fun s : Kept wr.heap.size wr => s.at c1
      have kk6 := fun s : Kept wr.heap.size wr => s.at c2
      have kk7 := fun s : Kept wr.heap.size wr => s.at c3
      obtain ⟨e,he⟩ : ∃ e,e = wiR ⟨t0,t1,t2,t3⟩ ⟨s0,s1,s2,s3⟩ := ⟨_,rfl⟩
      have HA1 : True := trivial
      have HA2 : Hid (∀ s : Kept wr.heap.size wr,Calls Tryz.prog 39 #[.agg #[.int .i64 t0,.int .i64 t1,.int .i64 t2,.int .i64 t3],.agg #[.int .i64 s0,.int .i64 s1,.int .i64 s2,.int .i64 s3]] s.w (PPost s.w (.bool e))) := fun s => by
        rw [he]
        exact within_c ⟨t0,t1,t2,t3⟩ ⟨s0,s1,s2,s3⟩ s.w
      have HE : Hid (ck = e) := by
        have h1 : (ps.all fun x => wiR (f (resP x)) x.box) = true := List.all_eq_true.2 fun x hx => by
          obtain ⟨u,hu,rfl⟩ := List.mem_iff_getElem.1 hx
          have := hall.out u (by rw [ei,HPE.out]; exact hu)
          simpa [hu] using this
        have : ck = e := by rw [HCK.out,he]; dsimp only; rw [h1]; rfl
        exact this
      have h1b : ¬ (i : Int) < (P : Int) := by omega
      have HBW : Hid (Below w.heap.size w wr) := hb.out.1
      clear he ei
      go_wp2_with fail
      refine wp_region_kept wr.heap.size (by kernel_rfl) (by kernel_rfl) ?_
      repeat (go_big_quiet_step (first | (go_at_call 39; with_reducible exact Calls.kept _ (Nat.le_refl _) (HA2.out _))))
      refine wpQuiet_nil ?_
      rintro _ ⟨s,rfl⟩
      have HE5 : Hid (Below w.heap.size w s.w) := HBW.out.trans (s.below.mono HBW.out.size)
      clear kk0 kk1 kk2 kk3 kk4 kk5 kk6 kk7 HA1 HA2
      go_wp2_with fail
      go_ret
      exact ⟨ret_b HE.out.symm,HE5.out⟩
end Go.Proofs.YtaoamkbcegadcaaGreatDoor
