/- Texts joined: XYn XYo XYr. -/
import Derived.Test.YtaoamkbcegadcaaGreatDoorYm
import Derived.Test.YtaoamkbcegadcaaGreatDoorAf
set_option maxRecDepth 4000
/- Layer 19: Make. (Printed by mk_yn.py.) -/
namespace Go.Proofs.YtaoamkbcegadcaaGreatDoor
open Go.RowKit Go.Bx Go.Od Go.Hp
attribute [local go_sem ↓] Go.wp_at_zero Go.wp_at_succ
set_option linter.unusedVariables false

abbrev cfv (c : Cf) : Value := .agg #[.bool c.fuse,.bool c.al,.bool c.roi,.bool c.dam,.int .i64 c.room]
structure PlOk (nds : List Nd) (out : Int) (want : Rc) : Prop where
  sg : SGood nds out
  gn : GoodN nds out
  rc : RcP want
  ne : want.emp = false
noncomputable def plS (nds : List Nd) (out : Int) (c : Cf) (want : Rc) : St := asg nds c (pss nds out c want)
theorem PR.mono {B C : Nat} {pl : List (Value × Value × Ps)} {pv : Value} {W : World} (h : PR B pl pv W) (hC : C ≤ B) : PR C pl pv W := ⟨row_base h.1 hC,fun x hx => ⟨OwnP.mono (h.2 x hx).1 hC,OwnP.mono (h.2 x hx).2 hC⟩⟩
theorem PR.set {B : Nat} {pl : List (Value × Value × Ps)} {pv : Value} {W : World} (h : PR B pl pv W) {p : Addr} (hp : p.block < B) (v : Value) : PR B pl pv (W.setCell p v) := ⟨owns_set h.1 hp v,fun x hx => ⟨owns_set (h.2 x hx).1 hp v,owns_set (h.2 x hx).2 hp v⟩⟩
theorem set7_box {W : World} {g : Nat} {a0 a1 a2 a3 a4 a5 a6 : Value} (h : Box W g [a0,a1,a2,a3,a4,a5,a6]) (b0 b1 b2 b3 b4 b5 b6 : Value) : Box (((((((W.setCell ⟨g,0,none⟩ (b0)).setCell ⟨g,1,none⟩ (b1)).setCell ⟨g,2,none⟩ (b2)).setCell ⟨g,3,none⟩ (b3)).setCell ⟨g,4,none⟩ (b4)).setCell ⟨g,5,none⟩ (b5)).setCell ⟨g,6,none⟩ (b6)) g [b0,b1,b2,b3,b4,b5,b6] := by
  obtain ⟨t,h⟩ := h
  refine ⟨t,?_⟩
  simp [World.setCell,Array.getElem?_modify,h]
def MkPost (w : World) (s : St) (src : Rc) (e : Ending) (w' : World) : Prop := ∃ pl pv,e = .returned (.agg #[pv,.int .i64 src.x0,.int .i64 src.y0,.int .i64 src.x1,.int .i64 src.y1,.int .i64 s.sl.length,.int .i64 s.pk]) ∧ psl pl = s.ps ∧ PR w.heap.size pl pv w' ∧ Below w.heap.size w w'
theorem pss_ok {nds : List Nd} {out : Int} {want : Rc} {c : Cf} (h : PlOk nds out want) : ∀ x ∈ pss nds out c want,POk x := fun x hx => by
  obtain ⟨i,hi,rfl⟩ := List.mem_iff_getElem.1 hx
  have e1 : (pss nds out c want)[i] = (pss nds out c want).getD i Ps.none := by simp [hi]
  rw [pss_len] at hi
  obtain ⟨_,_,h3,h4⟩ := pss_all (want := want) hi
  rw [e1]
  refine ⟨?_,fun k hk => ?_,fun x hx => ?_,pss_pl h.gn h.rc hi⟩
  · rw [h3]; exact (grp_lens h.sg.toGood hi).1
  · rw [h3] at hk
    have h1 := h.sg.toGood.w_lt hi hk
    have h2 := h.sg.few
    omega
  · rw [h4] at hx
    exact h.sg.ok.in64 _ (getD_mem [] (by rw [List.length_map,gL_len]; exact hi)) x hx
theorem pss_nodes {nds : List Nd} {out : Int} {want : Rc} {c : Cf} (h : PlOk nds out want) : ∀ x ∈ pss nds out c want,∀ k ∈ x.nodes,k < nds.length := fun x hx k hk => by
  obtain ⟨i,hi,rfl⟩ := List.mem_iff_getElem.1 hx
  have e1 : (pss nds out c want)[i] = (pss nds out c want).getD i Ps.none := by simp [hi]
  rw [pss_len] at hi
  obtain ⟨_,_,h3,_⟩ := pss_all (want := want) hi
  rw [e1,h3] at hk
  exact h.sg.toGood.w_lt hi hk
set_option maxRecDepth 10000 in
set_option maxHeartbeats 6400000 in
theorem make_c (B : Nat) (nv : Value) (nds : List Nd) (out : Int) (want : Rc) (c : Cf) (w : World) (h : PlOk nds out want) (hg : Gr B w nv nds) (hB : B ≤ w.heap.size) :
    Calls Tryz.prog 8 #[.agg #[nv,.int .i64 out],rv want,cfv c] w (MkPost w (plS nds out c want) (srcO nds out c want)) := by
  have hg' := hg.mono hB
  obtain ⟨ga,gc,hnv⟩ := hg.isSl
  obtain ⟨m,hmn⟩ : ∃ m,m = nds.length := ⟨_,rfl⟩
  rw [← hmn] at hnv
  subst hnv
  have HG : Hid (Gr w.heap.size w (.slice ga m gc) nds ∧ PlOk nds out want ∧ nds.length ≤ 100) := ⟨hg',h,h.sg.few⟩
  have HP : Hid (∀ w4 W M,Below w.heap.size w w4 → MS w4 M (.slice ga m gc) out c [] (.slice none 0 0) Rc.zero 0 0 [] (.slice none 0 0) W → Calls Tryz.prog 14 #[.pointer (some ⟨M,0,none⟩),rv want] W (BxPost w4 M (.slice ga m gc) out c (pss nds out c want) (srcO nds out c want))) := fun w4 W M hb hm => boxes_c nds want W hm ((HG.out.1.below hb (Nat.le_refl _)).mono hb.size) h.sg h.gn h.rc h.ne
  obtain ⟨ps,hps⟩ : ∃ p,p = pss nds out c want := ⟨_,rfl⟩
  obtain ⟨src,hsrc⟩ : ∃ p,p = srcO nds out c want := ⟨_,rfl⟩
  obtain ⟨A,hA⟩ : ∃ p,p = asg nds c ps := ⟨_,rfl⟩
  have HPS : Hid ((∀ x ∈ ps,POk x) ∧ (∀ x ∈ ps,∀ k ∈ x.nodes,k < nds.length) ∧ ps.length ≤ 100 ∧ 0 < ps.length ∧ asg nds c ps = A) := by
    have : (∀ x ∈ ps,POk x) ∧ (∀ x ∈ ps,∀ k ∈ x.nodes,k < nds.length) ∧ ps.length ≤ 100 ∧ 0 < ps.length ∧ asg nds c ps = A := by
      rw [hA,hps]
      refine ⟨pss_ok h,pss_nodes h,by rw [pss_len]; exact grp_le h.sg.toGood,?_,rfl⟩
      rw [pss_len]
      obtain ⟨r,hr,_⟩ := h.sg.toGood.has_out (on := c.fuse)
      omega
    exact this
  have hpl : plS nds out c want = A := by rw [hA,hps]; rfl
  rw [hpl,← hsrc]
  rw [← hps,← hsrc] at HP
  obtain ⟨x0,y0,x1,y1⟩ := want
  obtain ⟨s0,s1,s2,s3⟩ := src
  have HC : Hid (c = c) := rfl
  clear hg hg' hB h hmn hpl hps hsrc hA
  obtain ⟨fu,al,ro,da,rm⟩ := c
  go_enter Tryz.func8,Tryz.ntmps8
  obtain ⟨XZ,hb4⟩ : Box ((((w.alloc (.cells #[.slice ga m gc,.int .i64 out] 24)).alloc (.cells (cs4 x0 y0 x1 y1) 26)).alloc (.cells #[.bool fu,.bool al,.bool ro,.bool da,.int .i64 rm] 28)).alloc (.cells #[.slice none 0 0,.int .i64 0,.int .i64 0,.int .i64 0,.int .i64 0,.int .i64 0,.int .i64 0] 33)) (w.heap.size + 1 + 1 + 1) [.slice none 0 0,.int .i64 0,.int .i64 0,.int .i64 0,.int .i64 0,.int .i64 0,.int .i64 0] ∧ Below w.heap.size w ((((w.alloc (.cells #[.slice ga m gc,.int .i64 out] 24)).alloc (.cells (cs4 x0 y0 x1 y1) 26)).alloc (.cells #[.bool fu,.bool al,.bool ro,.bool da,.int .i64 rm] 28)).alloc (.cells #[.slice none 0 0,.int .i64 0,.int .i64 0,.int .i64 0,.int .i64 0,.int .i64 0,.int .i64 0] 33)) := by
    have b0 := below_new w (.cells #[.slice ga m gc,.int .i64 out] 24)
    have b1 := b0.alloc b0.size (.cells (cs4 x0 y0 x1 y1) 26)
    have b2 := b1.alloc b1.size (.cells #[.bool fu,.bool al,.bool ro,.bool da,.int .i64 rm] 28)
    have b3 := b2.alloc b2.size (.cells #[.slice none 0 0,.int .i64 0,.int .i64 0,.int .i64 0,.int .i64 0,.int .i64 0,.int .i64 0] 33)
    have X := Box.new (((w.alloc (.cells #[.slice ga m gc,.int .i64 out] 24)).alloc (.cells (cs4 x0 y0 x1 y1) 26)).alloc (.cells #[.bool fu,.bool al,.bool ro,.bool da,.int .i64 rm] 28)) [.slice none 0 0,.int .i64 0,.int .i64 0,.int .i64 0,.int .i64 0,.int .i64 0,.int .i64 0] 33
    simp only [size_alloc] at X
    exact ⟨X,b3⟩
  go_wp2_with fail
  obtain ⟨zp,hzp⟩ : ∃ z,z = w.heap.size + 1 + 1 + 1 := ⟨_,rfl⟩
  have hsz4 : ((((w.alloc (.cells #[.slice ga m gc,.int .i64 out] 24)).alloc (.cells (cs4 x0 y0 x1 y1) 26)).alloc (.cells #[.bool fu,.bool al,.bool ro,.bool da,.int .i64 rm] 28)).alloc (.cells #[.slice none 0 0,.int .i64 0,.int .i64 0,.int .i64 0,.int .i64 0,.int .i64 0,.int .i64 0] 33)).heap.size = zp + 1 := by rw [hzp]; simp only [size_alloc]
  rw [← hzp] at XZ ⊢
  have hzw : w.heap.size ≤ zp := by omega
  generalize ((((w.alloc (.cells #[.slice ga m gc,.int .i64 out] 24)).alloc (.cells (cs4 x0 y0 x1 y1) 26)).alloc (.cells #[.bool fu,.bool al,.bool ro,.bool da,.int .i64 rm] 28)).alloc (.cells #[.slice none 0 0,.int .i64 0,.int .i64 0,.int .i64 0,.int .i64 0,.int .i64 0,.int .i64 0] 33)) = W4 at *
  have H5 : Hid (MS W4 (zp + 1) (.slice ga m gc) out ⟨fu,al,ro,da,rm⟩ [] (.slice none 0 0) Rc.zero 0 0 [] (.slice none 0 0) (W4.alloc (.cells #[.slice ga m gc,.int .i64 out,.bool fu,.bool al,.bool ro,.bool da,.int .i64 rm,.slice none 0 0,.int .i64 0,.int .i64 0,.int .i64 0,.int .i64 0,.int .i64 0,.int .i64 0,.slice none 0 0] 51))) := by
    refine ⟨?_,Nat.le_of_eq hsz4,World.ownsRow_nil _ _ _ _,by simp,World.ownsRow_nil _ _ _ _,below_new _ _⟩
    rw [← hsz4]
    exact alloc_at W4 _
  have HZ : Hid (Box W4 zp [.slice none 0 0,.int .i64 0,.int .i64 0,.int .i64 0,.int .i64 0,.int .i64 0,.int .i64 0] ∧ Below w.heap.size w W4 ∧ w.heap.size ≤ zp ∧ W4.heap.size = zp + 1) := ⟨XZ,hb4,hzw,hsz4⟩
  have hbx := HP.out W4 _ (zp + 1) hb4 H5.out
  clear XZ hb4 hzp hsz4 hzw HP
  refine hbx.mono ?_; rintro e w6 ⟨rfl,pl,pv,hpl,hm6⟩
  have H6 : Hid (psl pl = ps ∧ MS W4 (zp + 1) (.slice ga m gc) out ⟨fu,al,ro,da,rm⟩ pl pv ⟨s0,s1,s2,s3⟩ 0 0 [] (.slice none 0 0) w6) := ⟨hpl,hm6⟩
  clear hbx hpl hm6 H5
  have has := assign_c nds w6 H6.out.2 ((HG.out.1.below HZ.out.2.1 (Nat.le_refl _)).mono HZ.out.2.1.size) HG.out.2.2 (by rw [← psl_len,H6.out.1]; exact HPS.out.2.2.1) (by rw [← psl_len,H6.out.1]; exact HPS.out.2.2.2.1) (by rw [H6.out.1]; exact HPS.out.1) (by rw [H6.out.1]; exact HPS.out.2.1)
  rw [H6.out.1,HPS.out.2.2.2.2] at has
  go_wp2_with fail
  refine has.mono ?_; rintro e w7 ⟨rfl,pl7,sv7,hpl,hm7⟩
  clear has H6 HPS HG
  obtain ⟨Ap,Asl,Apk⟩ := A
  dsimp only at hpl hm7
  obtain ⟨sn,hsn⟩ : ∃ n,n = Asl.length := ⟨_,rfl⟩
  rw [← hsn] at hm7
  obtain ⟨pa,pc,hpv⟩ := hm7.prs.form
  obtain ⟨pn,hpn⟩ : ∃ n,n = pl7.length := ⟨_,rfl⟩
  rw [← hpn] at hpv
  subst hpv
  have m0 := hm7.box.cell 7 rfl
  have m1 := hm7.box.cell 8 rfl
  have m2 := hm7.box.cell 9 rfl
  have m3 := hm7.box.cell 10 rfl
  have m4 := hm7.box.cell 11 rfl
  have m5 := hm7.box.cell 12 rfl
  have m6 := hm7.box.cell 13 rfl
  have hbz := Box.call HZ.out.1 hm7.below
  have z0 := hbz.cell 0 rfl
  have f0 := hbz.frozen 0
  have z1 := hbz.cell 1 rfl
  have f1 := hbz.frozen 1
  have z2 := hbz.cell 2 rfl
  have f2 := hbz.frozen 2
  have z3 := hbz.cell 3 rfl
  have f3 := hbz.frozen 3
  have z4 := hbz.cell 4 rfl
  have f4 := hbz.frozen 4
  have z5 := hbz.cell 5 rfl
  have f5 := hbz.frozen 5
  have z6 := hbz.cell 6 rfl
  have f6 := hbz.frozen 6
  have HF : Hid (Box (((((((w7.setCell ⟨zp,0,none⟩ (.slice pa pn pc)).setCell ⟨zp,1,none⟩ (.int .i64 s0)).setCell ⟨zp,2,none⟩ (.int .i64 s1)).setCell ⟨zp,3,none⟩ (.int .i64 s2)).setCell ⟨zp,4,none⟩ (.int .i64 s3)).setCell ⟨zp,5,none⟩ (.int .i64 sn)).setCell ⟨zp,6,none⟩ (.int .i64 Apk)) zp [.slice pa pn pc,.int .i64 s0,.int .i64 s1,.int .i64 s2,.int .i64 s3,.int .i64 sn,.int .i64 Apk] ∧ psl pl7 = Ap ∧ PR w.heap.size pl7 (.slice pa pn pc) (((((((w7.setCell ⟨zp,0,none⟩ (.slice pa pn pc)).setCell ⟨zp,1,none⟩ (.int .i64 s0)).setCell ⟨zp,2,none⟩ (.int .i64 s1)).setCell ⟨zp,3,none⟩ (.int .i64 s2)).setCell ⟨zp,4,none⟩ (.int .i64 s3)).setCell ⟨zp,5,none⟩ (.int .i64 sn)).setCell ⟨zp,6,none⟩ (.int .i64 Apk)) ∧ Below w.heap.size w (((((((w7.setCell ⟨zp,0,none⟩ (.slice pa pn pc)).setCell ⟨zp,1,none⟩ (.int .i64 s0)).setCell ⟨zp,2,none⟩ (.int .i64 s1)).setCell ⟨zp,3,none⟩ (.int .i64 s2)).setCell ⟨zp,4,none⟩ (.int .i64 s3)).setCell ⟨zp,5,none⟩ (.int .i64 sn)).setCell ⟨zp,6,none⟩ (.int .i64 Apk)) ∧ sn = Asl.length) := by
    have hlt : zp < W4.heap.size := by have := HZ.out.2.2.2; omega
    have hpr := hm7.prs
    have hb := HZ.out.2.1.trans (hm7.below.mono HZ.out.2.1.size)
    have hzw := HZ.out.2.2.1
    exact ⟨set7_box hbz _ _ _ _ _ _ _,hpl,(((((((hpr.set hlt _).set hlt _).set hlt _).set hlt _).set hlt _).set hlt _).set hlt _).mono HZ.out.2.1.size,((((((hb.setCell hzw _).setCell hzw _).setCell hzw _).setCell hzw _).setCell hzw _).setCell hzw _).setCell hzw _,hsn⟩
  clear hbz hm7 hpl hsn hpn
  go_wp2_with fail
  generalize (((((((w7.setCell ⟨zp,0,none⟩ (.slice pa pn pc)).setCell ⟨zp,1,none⟩ (.int .i64 s0)).setCell ⟨zp,2,none⟩ (.int .i64 s1)).setCell ⟨zp,3,none⟩ (.int .i64 s2)).setCell ⟨zp,4,none⟩ (.int .i64 s3)).setCell ⟨zp,5,none⟩ (.int .i64 sn)).setCell ⟨zp,6,none⟩ (.int .i64 Apk)) = W8 at *
  have q0 := HF.out.1.cell 0 rfl
  have q1 := HF.out.1.cell 1 rfl
  have q2 := HF.out.1.cell 2 rfl
  have q3 := HF.out.1.cell 3 rfl
  have q4 := HF.out.1.cell 4 rfl
  have q5 := HF.out.1.cell 5 rfl
  have q6 := HF.out.1.cell 6 rfl
  refine bodyPost_ret (v := .agg #[.slice pa pn pc,.int .i64 s0,.int .i64 s1,.int .i64 s2,.int .i64 s3,.int .i64 sn,.int .i64 Apk]) (by simp [results,Tryz.results8,go_sem,q0,q1,q2,q3,q4,q5,q6]) rfl ?_
  exact ⟨pl7,_,by dsimp only; rw [← HF.out.2.2.2.2],HF.out.2.1,HF.out.2.2.1,HF.out.2.2.2.1⟩
end Go.Proofs.YtaoamkbcegadcaaGreatDoor
/- Layer 19: the plans of the law's own filters, plainly; the law's 'right'. -/
namespace Go.Proofs.YtaoamkbcegadcaaGreatDoor
open Go.RowKit Go.Bx Go.Od Go.Hp
attribute [local go_sem ↓] Go.wp_at_zero Go.wp_at_succ
set_option linter.unusedVariables false

def ndP (op : Int) (p : List Int) : List Nd := [⟨2,[-1],[1,1]⟩,⟨op,[0],p⟩]
theorem nedP (op : Int) (p : List Int) : ned (insOf (ndP op p)) 1 = fun i => decide (i < 2) := by
  have r1 : Ned (insOf (ndP op p)) 1 1 := ⟨by decide,by simp [ndP,insOf],.base⟩
  have r0 : Ned (insOf (ndP op p)) 1 0 := r1.next ((inp_mem _ _ _).2 ⟨by simp [ndP,insOf],by simp [ndP,insOf]⟩)
  funext i
  by_cases hi : i < 2
  · rw [decide_eq_true hi]
    refine (ned_iff _ _ _).2 ?_
    match i,hi with
    | 0,_ => exact r0
    | 1,_ => exact r1
  · rw [decide_eq_false hi]
    cases e : ned (insOf (ndP op p)) 1 i with
    | false => rfl
    | true =>
      have := ((ned_iff _ _ _).1 e).lt
      simp [ndP,insOf] at this
      omega
theorem rightP1 : rightB (ndP 2 [1,1]) 1 = true := by decide
theorem okP1 : PlOk (ndP 2 [1,1]) 1 ⟨0,0,4,4⟩ := ⟨sgood_of rightP1,goodN_of rightP1,by unfold RcP Pl; decide,by decide⟩
theorem rP (op : Int) (p : List Int) (h : GrpOk (ndP op p) [[0],[1]]) : [[0],[1]].map (rdS (ndP op p)) = [[-1],[0]] := by
  have h : ∀ g ∈ [[(0 : Int)],[1]],rdS (ndP op p) g = rfR (ndP op p) g ((ndP op p).length + 1) := fun g hg => (rfR_eq fun k hk x hx => h.rng _ x hx).symm
  rw [List.map_congr_left h]
  rfl
theorem bP1 : bxN (ndP 2 [1,1]) ⟨0,0,4,4⟩ 1 0 = ⟨-1,-1,5,5⟩ ∧ bxN (ndP 2 [1,1]) ⟨0,0,4,4⟩ 1 1 = ⟨0,0,4,4⟩ := by
  constructor <;> rfl
end Go.Proofs.YtaoamkbcegadcaaGreatDoor
/- Layer 19: the law's own 'right'. (Printed by mk_yr.py.) -/
namespace Go.Proofs.YtaoamkbcegadcaaGreatDoor
open Go.RowKit Go.Bx Go.Od Go.Hp
attribute [local go_sem ↓] Go.wp_at_zero Go.wp_at_succ
set_option linter.unusedVariables false

def wantB (r : Rc) : Bool := !(r.emp || (decide (r.x0 < -16777216) || (decide (r.y0 < -16777216) || (decide (r.x1 > 16777216) || decide (r.y1 > 16777216)))))
def rightP (nds : List Nd) (out : Int) (want : Rc) : Bool := wantB want && rightB nds out
theorem plOk_of {nds : List Nd} {out : Int} {want : Rc} (h : rightP nds out want = true) : PlOk nds out want := by
  unfold rightP at h
  rw [Bool.and_eq_true] at h
  obtain ⟨h1,h2⟩ := h
  unfold wantB at h1
  simp only [Bool.not_eq_true',Bool.or_eq_false_iff,decide_eq_false_iff_not] at h1
  obtain ⟨he,a0,a1,a2,a3⟩ := h1
  have h3 := (emp_ff want).1 he
  exact ⟨sgood_of h2,goodN_of h2,by unfold RcP Pl; omega,he⟩
def WB (w W : World) (a b : Value) (r : Rc) : Prop := Box W w.heap.size [a,b] ∧ Box W (w.heap.size + 1) (cl4 r) ∧ Below w.heap.size w W
theorem WB.new (w : World) (a b : Value) (r : Rc) (t1 t2 : TypeId) : WB w ((w.alloc (.cells #[a,b] t1)).alloc (.cells (cs4 r.x0 r.y0 r.x1 r.y1) t2)) a b r := by
  have h0 := Box.new w [a,b] t1
  have h1 := Box.new (w.alloc (.cells #[a,b] t1)) (cl4 r) t2
  simp only [size_alloc] at h1
  have b0 := below_new w (.cells #[a,b] t1)
  exact ⟨h0.alloc _,h1,b0.alloc b0.size _⟩
theorem WB.call {w W W' : World} {a b : Value} {r : Rc} (h : WB w W a b r) (hb : Below W.heap.size W W') : WB w W' a b r := ⟨h.1.call hb,h.2.1.call hb,h.2.2.trans (hb.mono h.2.2.size)⟩
set_option maxRecDepth 4000 in
set_option maxHeartbeats 6400000 in
theorem right19_c (B : Nat) (nv : Value) (nds : List Nd) (out : Int) (want : Rc) (w : World) (ht : Tabs w) (hg : Gr B w nv nds) (hB : B ≤ w.heap.size) :
    Calls Tryz.prog 7 #[.agg #[nv,.int .i64 out],rv want] w (PPost w (.bool (rightP nds out want))) := by
  have HG : Hid (Gr B w nv nds ∧ Tabs w) := ⟨hg,ht⟩
  obtain ⟨ga,gc,rfl⟩ := hg.isSl
  obtain ⟨x0,y0,x1,y1⟩ := want
  obtain ⟨f,hf⟩ : ∃ f,f = fewB nds 12 := ⟨_,rfl⟩
  have HF : Hid (f = fewB nds 12) := hf
  have H1 : Hid (WB w ((w.alloc (.cells #[.slice ga nds.length gc,.int .i64 out] 24)).alloc (.cells (cs4 x0 y0 x1 y1) 26)) (.slice ga nds.length gc) (.int .i64 out) ⟨x0,y0,x1,y1⟩) := WB.new w _ _ ⟨x0,y0,x1,y1⟩ _ _
  obtain ⟨eb,heb⟩ : ∃ e,e = Rc.emp ⟨x0,y0,x1,y1⟩ := ⟨_,rfl⟩
  have HW : Hid (rightP nds out ⟨x0,y0,x1,y1⟩ = (!(eb || (decide (x0 < -16777216) || (decide (y0 < -16777216) || (decide (x1 > 16777216) || decide (y1 > 16777216))))) && rightB nds out)) := by
    have : rightP nds out ⟨x0,y0,x1,y1⟩ = (!(eb || (decide (x0 < -16777216) || (decide (y0 < -16777216) || (decide (x1 > 16777216) || decide (y1 > 16777216))))) && rightB nds out) := by rw [heb]; rfl
    exact this
  obtain ⟨RB,hRB⟩ : ∃ r,r = rightP nds out ⟨x0,y0,x1,y1⟩ := ⟨_,rfl⟩
  rw [← hRB] at HW ⊢
  have hemp := rempty_c ⟨x0,y0,x1,y1⟩
  rw [← heb] at hemp
  clear hg ht hf heb hRB
  go_enter Tryz.func7,Tryz.ntmps7
  go_wp2_with fail
  generalize ((w.alloc (.cells #[.slice ga nds.length gc,.int .i64 out] 24)).alloc (.cells (cs4 x0 y0 x1 y1) 26)) = W1 at *
  obtain ⟨c0,c1,c2,c3⟩ := box4 H1.out.2.1
  go_wp2_with fail
  refine (hemp W1).mono ?_; rintro e w2 ⟨rfl,hb2⟩
  have H2 : Hid (WB w w2 (.slice ga nds.length gc) (.int .i64 out) ⟨x0,y0,x1,y1⟩) := H1.out.call hb2
  clear c0 c1 c2 c3 hemp hb2 H1
  obtain ⟨c0,c1,c2,c3⟩ := box4 H2.out.2.1
  cases eb with
  | true =>
    have HE : Hid (RB = false) := by
      have : RB = false := by rw [HW.out]; rfl
      exact this
    go_wp2_with fail
    go_ret
    exact ⟨ret_b HE.out.symm,H2.out.2.2⟩
  | false =>
  by_cases h0 : x0 < -16777216
  · have d0 : decide (x0 < -16777216) = true := decide_eq_true h0
    have HE : Hid (RB = false) := by
      have : RB = false := by rw [HW.out,d0]; simp
      exact this
    clear h0
    go_wp2_with fail
    go_ret
    exact ⟨ret_b HE.out.symm,H2.out.2.2⟩
  have d0 : decide (x0 < -16777216) = false := decide_eq_false h0
  clear h0
  by_cases h1 : y0 < -16777216
  · have d1 : decide (y0 < -16777216) = true := decide_eq_true h1
    have HE : Hid (RB = false) := by
      have : RB = false := by rw [HW.out,d0,d1]; simp
      exact this
    clear h1
    go_wp2_with fail
    go_ret
    exact ⟨ret_b HE.out.symm,H2.out.2.2⟩
  have d1 : decide (y0 < -16777216) = false := decide_eq_false h1
  clear h1
  by_cases h2 : x1 > 16777216
  · have d2 : decide (x1 > 16777216) = true := decide_eq_true h2
    have HE : Hid (RB = false) := by
      have : RB = false := by rw [HW.out,d0,d1,d2]; simp
      exact this
    clear h2
    go_wp2_with fail
    go_ret
    exact ⟨ret_b HE.out.symm,H2.out.2.2⟩
  have d2 : decide (x1 > 16777216) = false := decide_eq_false h2
  clear h2
  by_cases h3 : y1 > 16777216
  · have d3 : decide (y1 > 16777216) = true := decide_eq_true h3
    have HE : Hid (RB = false) := by
      have : RB = false := by rw [HW.out,d0,d1,d2,d3]; simp
      exact this
    clear h3
    go_wp2_with fail
    go_ret
    exact ⟨ret_b HE.out.symm,H2.out.2.2⟩
  have d3 : decide (y1 > 16777216) = false := decide_eq_false h3
  clear h3
  have HR : Hid (RB = rightB nds out) := by
    have : RB = rightB nds out := by rw [HW.out,d0,d1,d2,d3]; simp
    exact this
  have g0 := H2.out.1.cell 0 rfl
  have g1 := H2.out.1.cell 1 rfl
  clear HW
  go_wp2_with fail
  clear c0 c1 c2 c3 d0 d1 d2 d3 g0 g1
  refine (rfew_c B _ nds out 12 w2 (by omega) (HG.out.1.below (H2.out.2.2.mono hB) (Nat.le_refl _))).mono ?_; rintro e w3 ⟨rfl,hb3⟩
  have H3 : Hid (WB w w3 (.slice ga nds.length gc) (.int .i64 out) ⟨x0,y0,x1,y1⟩) := H2.out.call hb3
  have g0 := H3.out.1.cell 0 rfl
  have g1 := H3.out.1.cell 1 rfl
  rw [← HF.out]
  clear hb3 H2
  cases f with
  | false =>
    have HE : Hid (RB = false) := by
      have : RB = false := by rw [HR.out]; unfold rightB; rw [← HF.out]; rfl
      exact this
    go_wp2_with fail
    go_ret
    exact ⟨ret_b HE.out.symm,H3.out.2.2⟩
  | true =>
    obtain ⟨h1,h2⟩ := few_of HF.out.symm (by omega)
    have HN : Hid (∀ i,i < nds.length → (nds.getD i Nd.none).ins.length ≤ 1000) := h2
    clear h2
    go_wp2_with fail
    refine (check_c B _ nds out w3 (by omega) HN.out (HG.out.2.below H3.out.2.2) (HG.out.1.below (H3.out.2.2.mono hB) (Nat.le_refl _)) (Nat.le_trans hB H3.out.2.2.size)).mono ?_; rintro e w4 ⟨rfl,hb4⟩
    have HB4 : Hid (Below w.heap.size w w4) := H3.out.2.2.trans (hb4.mono H3.out.2.2.size)
    obtain ⟨c,hc⟩ : ∃ c,c = chkB nds out := ⟨_,rfl⟩
    rw [← hc]
    have HE : Hid (RB = (c == 0)) := by
      have : RB = (c == 0) := by rw [HR.out]; unfold rightB; rw [← HF.out,hc]; rfl
      exact this
    clear hb4 g0 g1 hc HN
    go_wp2_with fail
    go_ret
    exact ⟨ret_b HE.out.symm,HB4.out⟩
end Go.Proofs.YtaoamkbcegadcaaGreatDoor
