/- Texts joined: XYh XYi XYj. -/
import Derived.Test.YtaoamkbcegadcaaGreatDoorYg
import Derived.Test.YtaoamkbcegadcaaGreatDoorYp
import Derived.Test.YtaoamkbcegadcaaGreatDoorAc
set_option maxRecDepth 4000
/- Layer 19: find. (Printed by mk_yh.py.) -/
namespace Go.Proofs.YtaoamkbcegadcaaGreatDoor
open Go.RowKit Go.Bx Go.Od Go.Hp
attribute [local go_sem ↓] Go.wp_at_zero Go.wp_at_succ
set_option linter.unusedVariables false

theorem news_at {W : World} {g : Nat} {news : List Value} {et : TypeId} (h : W.heap[g]? = some (.cells news.toArray et (0,0))) (j : Nat) (u : Value) (hj : news[j]? = some u) : W.cell? ((⟨g,0,none⟩ : Addr).add j) = some u := by
  have h2 : Box W g news := ⟨_,h⟩
  rw [Go.WideShapes.add_plain,Nat.zero_add]
  exact h2.cell j hj
def FdPost (w0 : World) (M : Nat) (nv : Value) (out : Int) (c : Cf) (pl : List (Value × Value × Ps)) (pv : Value) (src : Rc) (sn pk : Int) (f : Int × List (Int × Int)) (e : Ending) (w' : World) : Prop := e = .returned (.int .i64 f.1) ∧ ∃ sv',MS w0 M nv out c pl pv src sn pk f.2 sv' w'
set_option maxRecDepth 4000 in
set_option maxHeartbeats 6400000 in
theorem find_c {w0 : World} {M : Nat} {nv pv sv : Value} {out : Int} {c : Cf} {pl : List (Value × Value × Ps)} {src : Rc} {sn pk : Int} {sl : List (Int × Int)} (nds : List Nd) (at_ : Nat) (w : World) (hm : MS w0 M nv out c pl pv src sn pk sl sv w) (hg : Gr w.heap.size w nv nds) (hn100 : nds.length ≤ 100) (hat : at_ < pl.length) (hok : ∀ x ∈ psl pl,POk x) (hnd : ∀ x ∈ psl pl,∀ k ∈ x.nodes,k < nds.length) (hlt : ∀ s ∈ sl,s.2 < pl.length) (hl : sl.length ≤ 100) :
    Calls Tryz.prog 32 #[.pointer (some ⟨M,0,none⟩),.int .i64 at_] w (FdPost w0 M nv out c pl pv src sn pk (findS nds c (psl pl) at_ sl)) := by
  obtain ⟨y,hy⟩ : ∃ y,y = (psl pl).getD at_ Ps.none := ⟨_,rfl⟩
  have hym : y ∈ psl pl := by rw [hy]; exact List.mem_of_getElem? (show (psl pl)[at_]? = some ((psl pl).getD at_ Ps.none) by simp [psl,hat])
  have hyo : POk y := hok _ hym
  obtain ⟨g,cap,na,nc,ra,rc,hpv,hgB,hgl,hmx,hfz,hpc,ho1,ho2⟩ := hm.prs.at hat hy
  have c7 := hm.box.cell 7 rfl
  rw [hpv] at c7
  obtain ⟨nn,hnn⟩ : ∃ n,n = y.nodes.length := ⟨_,rfl⟩
  obtain ⟨rn,hrn⟩ : ∃ n,n = y.reads.length := ⟨_,rfl⟩
  obtain ⟨pn,hpn⟩ : ∃ n,n = pl.length := ⟨_,rfl⟩
  rw [← hnn,← hrn] at hpc
  rw [← hpn] at c7 hmx
  have hsz := size_c na nn nc ra rn rc y w hyo.2.2.2
  obtain ⟨n,hn⟩ : ∃ n,n = szP y := ⟨_,rfl⟩
  rw [← hn] at hsz
  have HIN := fun W (hb : Below w.heap.size w W) => inPlace_c nds at_ W (hm.call hb) ((hg.below hb (Nat.le_refl _)).mono hb.size) hn100 hat hok hnd hlt (by omega)
  obtain ⟨ip,hip⟩ : ∃ k,k = inPlace nds (psl pl) at_ sl := ⟨_,rfl⟩
  obtain ⟨fi,hfi⟩ : ∃ k,k = fIdx (free n) sl := ⟨_,rfl⟩
  have HLE := fun W (hb : Below w.heap.size w W) (z : Nat) (hz : Box W z [.int .i64 n]) => least_c 57 #[.pointer (some ⟨z,0,none⟩)] (free n) W (hm.call hb) (enters_of Tryz.func57 (by kernel_rfl) rfl) (by omega) (fun W2 x hW hx => free_c n z x W2 ((hz.call hW).cell 0 rfl))
  rw [← hip] at HIN
  rw [← hfi] at HLE
  have HIN : Hid _ := HIN
  have HLE : Hid _ := HLE
  have HFS : Hid (findS nds c (psl pl) at_ sl = if c.al = true ∧ 0 ≤ ip then (ip,sl) else if c.al = true ∧ 0 ≤ fi then (fi,sl) else (sl.length,sl ++ [(n,0)])) := by
    have : findS nds c (psl pl) at_ sl = if c.al = true ∧ 0 ≤ ip then (ip,sl) else if c.al = true ∧ 0 ≤ fi then (fi,sl) else (sl.length,sl ++ [(n,0)]) := by
      unfold findS
      rw [← hy,← hn,← hfi,← hip]
    exact this
  have c3 := hm.box.cell 3 rfl
  have hi0 : (0 : Int) ≤ (at_ : Int) := by omega
  have hi1 : (at_ : Int) < (pn : Int) := by omega
  have HMS : Hid (MS w0 M nv out c pl pv src sn pk sl sv w) := hm
  have HSF : Hid (∃ a c',sv = .slice a sl.length c') := by
    have : ∃ a c',sv = .slice a sl.length c' := by obtain ⟨a,c',h,_⟩ := scs_cell hm.sr; exact ⟨a,c',h⟩
    exact this
  obtain ⟨sn0,hsn0⟩ : ∃ k,k = sl.length := ⟨_,rfl⟩
  have HSN : Hid (sl.length = sn0 ∧ sn0 + 1 ≤ maxLen ∧ (sn0 + 1) * 16 ≤ 140737488355328) := by
    have : sl.length = sn0 ∧ sn0 + 1 ≤ maxLen ∧ (sn0 + 1) * 16 ≤ 140737488355328 := ⟨hsn0.symm,by unfold maxLen; omega,by omega⟩
    exact this
  have HBKa : Hid (∀ k,sv.ownBlock = some k → k < w.heap.size) := fun k hk => (World.ownsRow.lt hm.sr k hk).2
  rw [← hsn0] at HSF
  obtain ⟨fu,al,ro,da,rm⟩ := c
  dsimp only at c3 HFS
  obtain ⟨ns,rs,⟨x0,y0,x1,y1⟩,so,lo⟩ := y
  obtain ⟨a0,a1,a2,a3,a4,a5,a6,a7⟩ := hpc
  dsimp only at a2 a3 a4 a5 a6 a7
  have HC3 : Hid (∀ W,Below w.heap.size w W → W.cell? ⟨M,3,none⟩ = some (.bool al)) := fun W hb => (hb.cell (lt_of_cell c3)).trans c3
  obtain ⟨fs,hfs⟩ : ∃ f,f = findS nds ⟨fu,al,ro,da,rm⟩ (psl pl) at_ sl := ⟨_,rfl⟩
  rw [← hfs] at HFS ⊢
  have hpn1 : pn ≤ 2 ^ 63 - 1 := by unfold maxLen at hmx; exact hmx
  clear hm hg hok hnd hlt hn100 hat hy hym hyo hpv hgB hgl hfz ho1 ho2 hnn hrn hpn hn hip hfi hfs c3 hmx hl hsn0
  go_enter Tryz.func32,Tryz.ntmps32
  go_wp2_with fail
  refine hsz.mono ?_; rintro e w1 ⟨rfl,hb1⟩
  clear a0 a1 a2 a3 a4 a5 a6 a7 c7 hsz
  obtain ⟨z,hz⟩ : ∃ z,z = w1.heap.size := ⟨_,rfl⟩
  have hb2 : Below w.heap.size w (w1.alloc (.cells #[.int .i64 n] 3)) := hb1.trans ((below_new w1 (.cells #[.int .i64 n] 3)).mono hb1.size)
  have HX : Hid (Below w.heap.size w (w1.alloc (.cells #[.int .i64 n] 3)) ∧ Box (w1.alloc (.cells #[.int .i64 n] 3)) z [.int .i64 n]) := ⟨hb2,by rw [hz]; exact Box.new w1 [.int .i64 n] _⟩
  have HBK : Hid ((∀ k,sv.ownBlock = some k → k < w.heap.size) ∧ w.heap.size ≤ z) := ⟨HBKa.out,by rw [hz]; exact hb1.size⟩
  have c3 := HC3.out _ HX.out.1
  clear hb1 hb2 HBKa
  cases al with
  | false =>
    have HE3 : Hid (fs.1 = (sn0 : Int) ∧ fs.2 = sl ++ [(n,0)]) := by
      have : fs = ((sl.length : Int),sl ++ [(n,0)]) := by rw [HFS.out]; simp
      have : fs.1 = (sn0 : Int) ∧ fs.2 = sl ++ [(n,0)] := by rw [this,HSN.out.1]; exact ⟨rfl,rfl⟩
      exact this
    clear HFS HIN HLE HC3 hi0 hi1 hpn1
    go_wp2_with fail
    rename_i K hK
    obtain ⟨W5,hW5⟩ : ∃ W,W = w1.alloc (.cells #[.int .i64 n] 3) := ⟨_,rfl⟩
    rw [← hz]
    rw [← hW5] at HX c3 ⊢
    clear hW5 hz
    obtain ⟨n2,hn2⟩ : ∃ n,n = W5.heap.size := ⟨_,rfl⟩
    have HBK2 : Hid (w.heap.size ≤ n2) := by
      have : w.heap.size ≤ n2 := by rw [hn2]; exact HX.out.1.size
      exact this
    have HX0 := HX
    clear HX
    have HX : Hid (MS w0 M nv out ⟨fu,false,ro,da,rm⟩ pl pv src sn pk sl sv W5 ∧ Box W5 z [.int .i64 n] ∧ n2 ≤ W5.heap.size) := ⟨HMS.out.call HX0.out.1,HX0.out.2,Nat.le_of_eq hn2⟩
    clear hn2 HX0 HMS
    refine wp_region_last (fun W => MS w0 M nv out ⟨fu,false,ro,da,rm⟩ pl pv src sn pk sl sv W ∧ Box W z [.int .i64 n] ∧ n2 ≤ W.heap.size) (ApT [.pointer (some ⟨M,0,none⟩),.pointer (some ⟨M,0,none⟩),.pointer (some ⟨M,0,none⟩),.pointer (some ⟨M,14,none⟩),sv,.int .i64 n,.agg #[.int .i64 n,.int .i64 0],undef,undef,.pointer (some ⟨M,0,none⟩),.pointer (some ⟨M,14,none⟩)] 7 8 n2 [.int .i64 n,.int .i64 0] 73 w0.heap.size 2 sn0 (scs sl)) 11 _ rfl rfl (by kernel_rfl) (by kernel_rfl) ⟨HX.out.1.call ((Below.refl _ _).drew),HX.out.2.1.call ((Below.refl _ _).drew),HX.out.2.2⟩ ?hop ?hlast
    case hop =>
      refine Each.get (n := 11) ⟨⟨⟨⟨⟨⟨⟨⟨⟨⟨⟨trivial,?h0⟩,?h1⟩,?h2⟩,?h3⟩,?h4⟩,?h5⟩,?h6⟩,?h7⟩,?h8⟩,?h9⟩,?h10⟩
      case h0 =>
        refine OpIs.plain (by kernel_rfl) _ rfl rfl fun vs ev W hf hI hd => ?_
        have e0 : ev (.tmp 0) = .pointer (some ⟨M,0,none⟩) := hf.off 0 rfl
        clear hK
        exact gives_pure (v := .pointer (some ⟨M,0,none⟩)) hI (by simp [gives,go_sem,e0]) (.inr (.inr ⟨by decide,by decide,rfl⟩))
      case h1 =>
        refine OpIs.plain (by kernel_rfl) _ rfl rfl fun vs ev W hf hI hd => ?_
        have e0 : ev (.tmp 0) = .pointer (some ⟨M,0,none⟩) := hf.off 0 rfl
        clear hK
        exact gives_pure (v := .pointer (some ⟨M,0,none⟩)) hI (by simp [gives,go_sem,e0]) (.inr (.inr ⟨by decide,by decide,rfl⟩))
      case h2 =>
        refine OpIs.plain (by kernel_rfl) _ rfl rfl fun vs ev W hf hI hd => ?_
        have e0 : ev (.tmp 35) = .pointer (some ⟨M,0,none⟩) := (hf.of 1 _ 35 rfl rfl rfl (of_decide_eq_true rfl)).trans ((hd 1 (by kernel_rfl)).val (by decide) (by decide))
        clear hK
        exact gives_pure (v := .pointer (some ⟨M,0,none⟩)) hI (by simp [gives,go_sem,e0]) (.inr (.inr ⟨by decide,by decide,rfl⟩))
      case h3 =>
        refine OpIs.plain (by kernel_rfl) _ rfl rfl fun vs ev W hf hI hd => ?_
        have e0 : ev (.tmp 36) = .pointer (some ⟨M,0,none⟩) := (hf.of 2 _ 36 rfl rfl rfl (of_decide_eq_true rfl)).trans ((hd 2 (by kernel_rfl)).val (by decide) (by decide))
        clear hK
        exact gives_pure (v := .pointer (some ⟨M,14,none⟩)) hI (by simp [gives,go_sem,e0]) (.inr (.inr ⟨by decide,by decide,rfl⟩))
      case h4 =>
        refine OpIs.plain (by kernel_rfl) _ rfl rfl fun vs ev W hf hI hd => ?_
        have e0 : ev (.tmp 37) = .pointer (some ⟨M,14,none⟩) := (hf.of 3 _ 37 rfl rfl rfl (of_decide_eq_true rfl)).trans ((hd 3 (by kernel_rfl)).val (by decide) (by decide))
        have d0 := hI.1.box.cell 14 rfl
        clear hK
        exact gives_pure (v := sv) hI (by simp [gives,go_sem,e0,d0]) (.inr (.inr ⟨by decide,by decide,rfl⟩))
      case h5 =>
        refine OpIs.plain (by kernel_rfl) _ rfl rfl fun vs ev W hf hI hd => ?_
        have e0 : ev (.tmp 5) = .pointer (some ⟨z,0,none⟩) := hf.off 5 rfl
        have d0 := hI.2.1.cell 0 rfl
        clear hK
        exact gives_pure (v := .int .i64 n) hI (by simp [gives,go_sem,e0,d0]) (.inr (.inr ⟨by decide,by decide,rfl⟩))
      case h6 =>
        refine OpIs.plain (by kernel_rfl) _ rfl rfl fun vs ev W hf hI hd => ?_
        have e0 : ev (.tmp 39) = .int .i64 n := (hf.of 5 _ 39 rfl rfl rfl (of_decide_eq_true rfl)).trans ((hd 5 (by kernel_rfl)).val (by decide) (by decide))
        clear hK
        exact gives_pure (v := .agg #[.int .i64 n,.int .i64 0]) hI (by simp [gives,go_sem,e0]) (.inr (.inr ⟨by decide,by decide,rfl⟩))
      case h7 =>
        refine OpIs.plain (by kernel_rfl) _ rfl rfl fun vs ev W hf hI hd => ?_
        have e0 : ev (.tmp 40) = .agg #[.int .i64 n,.int .i64 0] := (hf.of 6 _ 40 rfl rfl rfl (of_decide_eq_true rfl)).trans ((hd 6 (by kernel_rfl)).val (by decide) (by decide))
        clear hK
        refine gives_mono (R := fun v w' => v = .slice (some ⟨W.heap.size,0,none⟩) 1 1 ∧ w' = W.alloc (.cells #[.int .i64 n,.int .i64 0] 73)) (by simp [gives,go_sem,e0]) ?_
        rintro _ _ ⟨rfl,rfl⟩
        have hb := below_alloc W (.cells #[.int .i64 n,.int .i64 0] 73)
        exact ⟨.inl ⟨rfl,_,rfl,hI.2.2,alloc_at W _⟩,⟨hI.1.call hb,hI.2.1.call hb,Nat.le_trans hI.2.2 hb.size⟩,fun j u _ h => h.below hb⟩
      case h8 =>
        refine OpIs.plain (by kernel_rfl) _ rfl rfl fun vs ev W hf hI hd => ?_
        have e0 : ev (.tmp 38) = sv := (hf.of 4 _ 38 rfl rfl rfl (of_decide_eq_true rfl)).trans ((hd 4 (by kernel_rfl)).val (by decide) (by decide))
        obtain ⟨gb,b1,b2,b3⟩ := (hd 7 (by kernel_rfl)).newv (by decide)
        have e1 := (hf.of 7 _ 41 rfl rfl rfl (of_decide_eq_true rfl)).trans b1
        obtain ⟨i3,hi3,hz0,hz1,hz2⟩ := info_parts infoSlot
        obtain ⟨a',c',W',hr,ho,hold,hg⟩ := app_keep (P := Tryz.prog) 49 73 i3 (.agg #[.int .i64 0,.int .i64 0]) 2 16 Tryz.underlying49 hi3 hz0 hz1 hz2 rfl (by decide) sv sn0 (scs sl) (HSN.out.1 ▸ hI.1.sr) ⟨gb,0,none⟩ 1 1 [.int .i64 n,.int .i64 0] rfl (news_at b3) (by intro u hu; simp at hu; rcases hu with rfl | rfl <;> rfl) (by decide) HSN.out.2.1 HSN.out.2.2 (hI.1.below.size)
        have hbl := (fun (k : Nat) (hk : sv.ownBlock = some k) => Nat.lt_of_lt_of_le (HBK.out.1 k hk) HBK2.out)
        obtain ⟨ra0,rc0,hrow⟩ := HSF.out
        have hI' := (⟨hI.1.app hg (HSN.out.1 ▸ hold),hI.2.1.grown' hg (fun e => by have := HBK.out.1 z e; have := HBK.out.2; omega),Nat.le_trans hI.2.2 hg.size⟩ : MS w0 M nv out ⟨fu,false,ro,da,rm⟩ pl pv src sn pk sl sv W' ∧ Box W' z [.int .i64 n] ∧ n2 ≤ W'.heap.size)
        clear hK
        refine gives_mono (R := fun v w' => v = .slice (some ⟨a',0,none⟩) (sn0 + 1) c' ∧ w' = W') (by unfold gives; rw [hrow] at hr e0; simp [execOp,resolve,invoke,builtin,e0,e1,hr,Result.andThen]) ?_
        rintro _ _ ⟨rfl,rfl⟩
        exact ⟨.inr (.inl ⟨rfl,_,_,rfl,ho⟩),hI',fun j u hj h => h.grow hj hg hbl⟩
      case h9 =>
        refine OpIs.plain (by kernel_rfl) _ rfl rfl fun vs ev W hf hI hd => ?_
        have e0 : ev (.tmp 34) = .pointer (some ⟨M,0,none⟩) := (hf.of 0 _ 34 rfl rfl rfl (of_decide_eq_true rfl)).trans ((hd 0 (by kernel_rfl)).val (by decide) (by decide))
        clear hK
        exact gives_pure (v := .pointer (some ⟨M,0,none⟩)) hI (by simp [gives,go_sem,e0]) (.inr (.inr ⟨by decide,by decide,rfl⟩))
      case h10 =>
        refine OpIs.plain (by kernel_rfl) _ rfl rfl fun vs ev W hf hI hd => ?_
        have e0 : ev (.tmp 43) = .pointer (some ⟨M,0,none⟩) := (hf.of 9 _ 43 rfl rfl rfl (of_decide_eq_true rfl)).trans ((hd 9 (by kernel_rfl)).val (by decide) (by decide))
        clear hK
        exact gives_pure (v := .pointer (some ⟨M,14,none⟩)) hI (by simp [gives,go_sem,e0]) (.inr (.inr ⟨by decide,by decide,rfl⟩))
    case hlast =>
      intro vs W hI hT
      obtain ⟨ga,ca,r1,r2⟩ := (hT 8 (by decide)).row (by decide)
      rw [r1] at r2
      have t10 := (hT 10 (by decide)).val (by decide) (by decide)
      refine last_plain (by kernel_rfl) rfl fun F ev hF hf => ?_
      have e1 := (hf.of 8 _ 42 rfl rfl rfl (of_decide_eq_true rfl)).trans r1
      have e2 : ev (.tmp 44) = .pointer (some ⟨M,14,none⟩) := (hf.of 10 _ 44 rfl rfl rfl (of_decide_eq_true rfl)).trans t10
      have c14 := hI.1.box.cell 14 rfl
      have f14 := hI.1.box.frozen 14
      have HR : Hid (MS w0 M nv out ⟨fu,false,ro,da,rm⟩ pl pv src sn pk (sl ++ [(n,0)]) (.slice (some ⟨ga,0,none⟩) (sn0 + 1) ca) (W.setCell ⟨M,14,none⟩ (.slice (some ⟨ga,0,none⟩) (sn0 + 1) ca))) := hI.1.putSl (by
        rw [scs_app,List.length_append,HSN.out.1]
        exact r2)
      refine gives_mono (R := fun v w' => v = undef ∧ w' = W.setCell ⟨M,14,none⟩ (.slice (some ⟨ga,0,none⟩) (sn0 + 1) ca)) (by simp [gives,go_sem,e1,e2,c14,f14]) ?_
      rintro _ _ ⟨rfl,rfl⟩
      subst hF
      simp [fr,Act.put,r1,t10]
      generalize vs 0 = u0 at *
      generalize vs 1 = u1 at *
      generalize vs 2 = u2 at *
      generalize vs 3 = u3 at *
      generalize vs 4 = u4 at *
      generalize vs 5 = u5 at *
      generalize vs 6 = u6 at *
      generalize vs 7 = u7 at *
      generalize vs 8 = u8 at *
      generalize vs 9 = u9 at *
      generalize vs 10 = u10 at *
      clear hT hf t10 e1 e2 r1 r2
      refine hK _ _ ?_
      clear hK c14 f14 hI
      generalize W.setCell ⟨M,14,none⟩ (.slice (some ⟨ga,0,none⟩) (sn0 + 1) ca) = W9 at *
      clear W
      have c14 := HR.out.box.cell 14 rfl
      go_wp2_with fail
      go_ret
      have hs1 := HSN.out.2.2
      exact ⟨by rw [HE3.out.1]; exact congrArg (fun x => Ending.returned (.int .i64 x)) (show wrap64 (sn0 : Int) = sn0 by unfold wrap64; omega),by rw [HE3.out.2]; exact ⟨_,HR.out⟩⟩
  | true =>
    have hin := HIN.out _ HX.out.1
    go_wp2_with fail
    refine hin.mono ?_; rintro e w3 ⟨rfl,hb3⟩
    rw [← hz]
    clear hz
    have HX3 : Hid (Below w.heap.size w w3 ∧ Box w3 z [.int .i64 n]) := ⟨HX.out.1.trans (hb3.mono HX.out.1.size),HX.out.2.call hb3⟩
    clear hin hb3 c3 HX
    by_cases h0 : 0 ≤ ip
    · have hd : decide (ip ≥ 0) = true := decide_eq_true h0
      have HE3 : Hid (fs.1 = ip ∧ fs.2 = sl) := by
        have : fs.1 = ip ∧ fs.2 = sl := by rw [HFS.out,if_pos ⟨trivial,h0⟩]; exact ⟨rfl,rfl⟩
        exact this
      clear HFS HIN HLE
      go_wp2_with fail
      go_ret
      exact ⟨by rw [HE3.out.1]; rfl,by rw [HE3.out.2]; exact ⟨_,HMS.out.call HX3.out.1⟩⟩
    have hd : decide (ip ≥ 0) = false := decide_eq_false h0
    have hle := HLE.out w3 HX3.out.1 z HX3.out.2
    go_wp2_with fail
    refine hle.mono ?_; rintro e w4 ⟨rfl,hb4⟩
    have HX : Hid (Below w.heap.size w w4 ∧ Box w4 z [.int .i64 n]) := ⟨HX3.out.1.trans (hb4.mono HX3.out.1.size),HX3.out.2.call hb4⟩
    clear hle hb4 HX3 HIN HLE
    by_cases h1 : 0 ≤ fi
    · have hd1 : decide (fi ≥ 0) = true := decide_eq_true h1
      have HE3 : Hid (fs.1 = fi ∧ fs.2 = sl) := by
        have : fs.1 = fi ∧ fs.2 = sl := by rw [HFS.out,if_neg (fun h => by have := h.2; omega),if_pos ⟨trivial,h1⟩]; exact ⟨rfl,rfl⟩
        exact this
      clear HFS
      go_wp2_with fail
      go_ret
      exact ⟨by rw [HE3.out.1]; rfl,by rw [HE3.out.2]; exact ⟨_,HMS.out.call HX.out.1⟩⟩
    have hd1 : decide (fi ≥ 0) = false := decide_eq_false h1
    have HE3 : Hid (fs.1 = (sn0 : Int) ∧ fs.2 = sl ++ [(n,0)]) := by
      have : fs = ((sl.length : Int),sl ++ [(n,0)]) := by rw [HFS.out,if_neg (fun h => by have := h.2; omega),if_neg (fun h => by have := h.2; omega)]
      have : fs.1 = (sn0 : Int) ∧ fs.2 = sl ++ [(n,0)] := by rw [this,HSN.out.1]; exact ⟨rfl,rfl⟩
      exact this
    clear HFS h0 h1 HC3 hi0 hi1 hpn1
    go_wp2_with fail
    rename_i K hK
    obtain ⟨n2,hn2⟩ : ∃ n,n = w4.heap.size := ⟨_,rfl⟩
    have HBK2 : Hid (w.heap.size ≤ n2) := by
      have : w.heap.size ≤ n2 := by rw [hn2]; exact HX.out.1.size
      exact this
    have HX0 := HX
    clear HX
    have HX : Hid (MS w0 M nv out ⟨fu,true,ro,da,rm⟩ pl pv src sn pk sl sv w4 ∧ Box w4 z [.int .i64 n] ∧ n2 ≤ w4.heap.size) := ⟨HMS.out.call HX0.out.1,HX0.out.2,Nat.le_of_eq hn2⟩
    clear hn2 HX0 HMS
    refine wp_region_last (fun W => MS w0 M nv out ⟨fu,true,ro,da,rm⟩ pl pv src sn pk sl sv W ∧ Box W z [.int .i64 n] ∧ n2 ≤ W.heap.size) (ApT [.pointer (some ⟨M,0,none⟩),.pointer (some ⟨M,0,none⟩),.pointer (some ⟨M,0,none⟩),.pointer (some ⟨M,14,none⟩),sv,.int .i64 n,.agg #[.int .i64 n,.int .i64 0],undef,undef,.pointer (some ⟨M,0,none⟩),.pointer (some ⟨M,14,none⟩)] 7 8 n2 [.int .i64 n,.int .i64 0] 73 w0.heap.size 2 sn0 (scs sl)) 11 _ rfl rfl (by kernel_rfl) (by kernel_rfl) ⟨HX.out.1.call ((Below.refl _ _).drew),HX.out.2.1.call ((Below.refl _ _).drew),HX.out.2.2⟩ ?hop ?hlast
    case hop =>
      refine Each.get (n := 11) ⟨⟨⟨⟨⟨⟨⟨⟨⟨⟨⟨trivial,?h0⟩,?h1⟩,?h2⟩,?h3⟩,?h4⟩,?h5⟩,?h6⟩,?h7⟩,?h8⟩,?h9⟩,?h10⟩
      case h0 =>
        refine OpIs.plain (by kernel_rfl) _ rfl rfl fun vs ev W hf hI hd => ?_
        have e0 : ev (.tmp 0) = .pointer (some ⟨M,0,none⟩) := hf.off 0 rfl
        clear hK
        exact gives_pure (v := .pointer (some ⟨M,0,none⟩)) hI (by simp [gives,go_sem,e0]) (.inr (.inr ⟨by decide,by decide,rfl⟩))
      case h1 =>
        refine OpIs.plain (by kernel_rfl) _ rfl rfl fun vs ev W hf hI hd => ?_
        have e0 : ev (.tmp 0) = .pointer (some ⟨M,0,none⟩) := hf.off 0 rfl
        clear hK
        exact gives_pure (v := .pointer (some ⟨M,0,none⟩)) hI (by simp [gives,go_sem,e0]) (.inr (.inr ⟨by decide,by decide,rfl⟩))
      case h2 =>
        refine OpIs.plain (by kernel_rfl) _ rfl rfl fun vs ev W hf hI hd => ?_
        have e0 : ev (.tmp 35) = .pointer (some ⟨M,0,none⟩) := (hf.of 1 _ 35 rfl rfl rfl (of_decide_eq_true rfl)).trans ((hd 1 (by kernel_rfl)).val (by decide) (by decide))
        clear hK
        exact gives_pure (v := .pointer (some ⟨M,0,none⟩)) hI (by simp [gives,go_sem,e0]) (.inr (.inr ⟨by decide,by decide,rfl⟩))
      case h3 =>
        refine OpIs.plain (by kernel_rfl) _ rfl rfl fun vs ev W hf hI hd => ?_
        have e0 : ev (.tmp 36) = .pointer (some ⟨M,0,none⟩) := (hf.of 2 _ 36 rfl rfl rfl (of_decide_eq_true rfl)).trans ((hd 2 (by kernel_rfl)).val (by decide) (by decide))
        clear hK
        exact gives_pure (v := .pointer (some ⟨M,14,none⟩)) hI (by simp [gives,go_sem,e0]) (.inr (.inr ⟨by decide,by decide,rfl⟩))
      case h4 =>
        refine OpIs.plain (by kernel_rfl) _ rfl rfl fun vs ev W hf hI hd => ?_
        have e0 : ev (.tmp 37) = .pointer (some ⟨M,14,none⟩) := (hf.of 3 _ 37 rfl rfl rfl (of_decide_eq_true rfl)).trans ((hd 3 (by kernel_rfl)).val (by decide) (by decide))
        have d0 := hI.1.box.cell 14 rfl
        clear hK
        exact gives_pure (v := sv) hI (by simp [gives,go_sem,e0,d0]) (.inr (.inr ⟨by decide,by decide,rfl⟩))
      case h5 =>
        refine OpIs.plain (by kernel_rfl) _ rfl rfl fun vs ev W hf hI hd => ?_
        have e0 : ev (.tmp 5) = .pointer (some ⟨z,0,none⟩) := hf.off 5 rfl
        have d0 := hI.2.1.cell 0 rfl
        clear hK
        exact gives_pure (v := .int .i64 n) hI (by simp [gives,go_sem,e0,d0]) (.inr (.inr ⟨by decide,by decide,rfl⟩))
      case h6 =>
        refine OpIs.plain (by kernel_rfl) _ rfl rfl fun vs ev W hf hI hd => ?_
        have e0 : ev (.tmp 39) = .int .i64 n := (hf.of 5 _ 39 rfl rfl rfl (of_decide_eq_true rfl)).trans ((hd 5 (by kernel_rfl)).val (by decide) (by decide))
        clear hK
        exact gives_pure (v := .agg #[.int .i64 n,.int .i64 0]) hI (by simp [gives,go_sem,e0]) (.inr (.inr ⟨by decide,by decide,rfl⟩))
      case h7 =>
        refine OpIs.plain (by kernel_rfl) _ rfl rfl fun vs ev W hf hI hd => ?_
        have e0 : ev (.tmp 40) = .agg #[.int .i64 n,.int .i64 0] := (hf.of 6 _ 40 rfl rfl rfl (of_decide_eq_true rfl)).trans ((hd 6 (by kernel_rfl)).val (by decide) (by decide))
        clear hK
        refine gives_mono (R := fun v w' => v = .slice (some ⟨W.heap.size,0,none⟩) 1 1 ∧ w' = W.alloc (.cells #[.int .i64 n,.int .i64 0] 73)) (by simp [gives,go_sem,e0]) ?_
        rintro _ _ ⟨rfl,rfl⟩
        have hb := below_alloc W (.cells #[.int .i64 n,.int .i64 0] 73)
        exact ⟨.inl ⟨rfl,_,rfl,hI.2.2,alloc_at W _⟩,⟨hI.1.call hb,hI.2.1.call hb,Nat.le_trans hI.2.2 hb.size⟩,fun j u _ h => h.below hb⟩
      case h8 =>
        refine OpIs.plain (by kernel_rfl) _ rfl rfl fun vs ev W hf hI hd => ?_
        have e0 : ev (.tmp 38) = sv := (hf.of 4 _ 38 rfl rfl rfl (of_decide_eq_true rfl)).trans ((hd 4 (by kernel_rfl)).val (by decide) (by decide))
        obtain ⟨gb,b1,b2,b3⟩ := (hd 7 (by kernel_rfl)).newv (by decide)
        have e1 := (hf.of 7 _ 41 rfl rfl rfl (of_decide_eq_true rfl)).trans b1
        obtain ⟨i3,hi3,hz0,hz1,hz2⟩ := info_parts infoSlot
        obtain ⟨a',c',W',hr,ho,hold,hg⟩ := app_keep (P := Tryz.prog) 49 73 i3 (.agg #[.int .i64 0,.int .i64 0]) 2 16 Tryz.underlying49 hi3 hz0 hz1 hz2 rfl (by decide) sv sn0 (scs sl) (HSN.out.1 ▸ hI.1.sr) ⟨gb,0,none⟩ 1 1 [.int .i64 n,.int .i64 0] rfl (news_at b3) (by intro u hu; simp at hu; rcases hu with rfl | rfl <;> rfl) (by decide) HSN.out.2.1 HSN.out.2.2 (hI.1.below.size)
        have hbl := (fun (k : Nat) (hk : sv.ownBlock = some k) => Nat.lt_of_lt_of_le (HBK.out.1 k hk) HBK2.out)
        obtain ⟨ra0,rc0,hrow⟩ := HSF.out
        have hI' := (⟨hI.1.app hg (HSN.out.1 ▸ hold),hI.2.1.grown' hg (fun e => by have := HBK.out.1 z e; have := HBK.out.2; omega),Nat.le_trans hI.2.2 hg.size⟩ : MS w0 M nv out ⟨fu,true,ro,da,rm⟩ pl pv src sn pk sl sv W' ∧ Box W' z [.int .i64 n] ∧ n2 ≤ W'.heap.size)
        clear hK
        refine gives_mono (R := fun v w' => v = .slice (some ⟨a',0,none⟩) (sn0 + 1) c' ∧ w' = W') (by unfold gives; rw [hrow] at hr e0; simp [execOp,resolve,invoke,builtin,e0,e1,hr,Result.andThen]) ?_
        rintro _ _ ⟨rfl,rfl⟩
        exact ⟨.inr (.inl ⟨rfl,_,_,rfl,ho⟩),hI',fun j u hj h => h.grow hj hg hbl⟩
      case h9 =>
        refine OpIs.plain (by kernel_rfl) _ rfl rfl fun vs ev W hf hI hd => ?_
        have e0 : ev (.tmp 34) = .pointer (some ⟨M,0,none⟩) := (hf.of 0 _ 34 rfl rfl rfl (of_decide_eq_true rfl)).trans ((hd 0 (by kernel_rfl)).val (by decide) (by decide))
        clear hK
        exact gives_pure (v := .pointer (some ⟨M,0,none⟩)) hI (by simp [gives,go_sem,e0]) (.inr (.inr ⟨by decide,by decide,rfl⟩))
      case h10 =>
        refine OpIs.plain (by kernel_rfl) _ rfl rfl fun vs ev W hf hI hd => ?_
        have e0 : ev (.tmp 43) = .pointer (some ⟨M,0,none⟩) := (hf.of 9 _ 43 rfl rfl rfl (of_decide_eq_true rfl)).trans ((hd 9 (by kernel_rfl)).val (by decide) (by decide))
        clear hK
        exact gives_pure (v := .pointer (some ⟨M,14,none⟩)) hI (by simp [gives,go_sem,e0]) (.inr (.inr ⟨by decide,by decide,rfl⟩))
    case hlast =>
      intro vs W hI hT
      obtain ⟨ga,ca,r1,r2⟩ := (hT 8 (by decide)).row (by decide)
      rw [r1] at r2
      have t10 := (hT 10 (by decide)).val (by decide) (by decide)
      refine last_plain (by kernel_rfl) rfl fun F ev hF hf => ?_
      have e1 := (hf.of 8 _ 42 rfl rfl rfl (of_decide_eq_true rfl)).trans r1
      have e2 : ev (.tmp 44) = .pointer (some ⟨M,14,none⟩) := (hf.of 10 _ 44 rfl rfl rfl (of_decide_eq_true rfl)).trans t10
      have c14 := hI.1.box.cell 14 rfl
      have f14 := hI.1.box.frozen 14
      have HR : Hid (MS w0 M nv out ⟨fu,true,ro,da,rm⟩ pl pv src sn pk (sl ++ [(n,0)]) (.slice (some ⟨ga,0,none⟩) (sn0 + 1) ca) (W.setCell ⟨M,14,none⟩ (.slice (some ⟨ga,0,none⟩) (sn0 + 1) ca))) := hI.1.putSl (by
        rw [scs_app,List.length_append,HSN.out.1]
        exact r2)
      refine gives_mono (R := fun v w' => v = undef ∧ w' = W.setCell ⟨M,14,none⟩ (.slice (some ⟨ga,0,none⟩) (sn0 + 1) ca)) (by simp [gives,go_sem,e1,e2,c14,f14]) ?_
      rintro _ _ ⟨rfl,rfl⟩
      subst hF
      simp [fr,Act.put,r1,t10]
      generalize vs 0 = u0 at *
      generalize vs 1 = u1 at *
      generalize vs 2 = u2 at *
      generalize vs 3 = u3 at *
      generalize vs 4 = u4 at *
      generalize vs 5 = u5 at *
      generalize vs 6 = u6 at *
      generalize vs 7 = u7 at *
      generalize vs 8 = u8 at *
      generalize vs 9 = u9 at *
      generalize vs 10 = u10 at *
      clear hT hf t10 e1 e2 r1 r2
      refine hK _ _ ?_
      clear hK c14 f14 hI
      generalize W.setCell ⟨M,14,none⟩ (.slice (some ⟨ga,0,none⟩) (sn0 + 1) ca) = W9 at *
      clear W
      have c14 := HR.out.box.cell 14 rfl
      go_wp2_with fail
      go_ret
      have hs1 := HSN.out.2.2
      exact ⟨by rw [HE3.out.1]; exact congrArg (fun x => Ending.returned (.int .i64 x)) (show wrap64 (sn0 : Int) = sn0 by unfold wrap64; omega),by rw [HE3.out.2]; exact ⟨_,HR.out⟩⟩
end Go.Proofs.YtaoamkbcegadcaaGreatDoor
/- Layer 19: used, release. (Printed by mk_yi.py.) -/
namespace Go.Proofs.YtaoamkbcegadcaaGreatDoor
open Go.RowKit Go.Bx Go.Od Go.Hp
attribute [local go_sem ↓] Go.wp_at_zero Go.wp_at_succ
set_option linter.unusedVariables false

section
variable {w0 : World} {M : Nat} {nv pv sv : Value} {out : Int} {c : Cf} {pl : List (Value × Value × Ps)} {src : Rc} {sn pk : Int} {sl : List (Int × Int)} {W W' : World}
theorem row_keep2 {B s n : Nat} {e : TypeId} {v : Value} {xs : List Value} (p : Addr) (h : W.ownsRow B e s v n xs) (hne : v.ownBlock ≠ some p.block) (u : Value) : (W.setCell p u).ownsRow B e s v n xs := by
  refine ⟨h.1,?_⟩
  rcases h.2 with hn | ⟨g',cap,cur,rfl,hB,hb,rest⟩
  · exact .inl hn
  · refine .inr ⟨g',cap,cur,rfl,hB,?_,rest⟩
    rw [Below.heap_setCell _ _ _ _ fun e => hne (by rw [← e]; rfl)]
    exact hb
theorem MS.setSlot {g n cp : Nat} (h : MS w0 M nv out c pl pv src sn pk sl (.slice (some ⟨g,0,none⟩) n cp) W) {i : Nat} (hi : i < sl.length) (v : Int) : MS w0 M nv out c pl pv src sn pk (sl.set i ((sl.getD i (0,0)).1,v)) (.slice (some ⟨g,0,none⟩) n cp) (W.setCell ⟨g,i * 2 + 1,none⟩ (.int .i64 v)) := by
  have hn : n = sl.length := by
    rcases h.sr.2 with ⟨h1,_⟩ | ⟨g',cap,cur,h1,_⟩
    · cases h1
    · cases h1; rfl
  subst hn
  have hM : M ≠ g := fun e => own_apartM h.sr h.hm (by decide) (by rw [e]; rfl)
  have k1 : ∀ {B s n : Nat} {e : TypeId} {v' : Value} {xs : List Value},W.ownsRow B e s v' n xs → e ≠ 73 → (W.setCell ⟨g,i * 2 + 1,none⟩ (.int .i64 v)).ownsRow B e s v' n xs := fun hr ht => row_keep2 ⟨g,i * 2 + 1,none⟩ hr (fun e => rows_apart hr h.sr ht e rfl) _
  have hg : sl[i]? = some (sl.getD i (0,0)) := by simp [hi]
  refine ⟨?_,h.hM,k1 h.pr (by decide),fun x hx => ⟨k1 (h.pi x hx).1 (by decide),k1 (h.pi x hx).2 (by decide)⟩,?_,h.below.setCell (World.ownsRow.lt h.sr g rfl).1 _⟩
  · rw [Below.heap_setCell _ _ _ _ hM]
    exact h.hm
  · rw [List.length_set,← scs_set sl i _ v hg]
    exact row_put h.sr _ _ (by omega)
theorem MS.setPass {g n cp : Nat} (h : MS w0 M nv out c pl (.slice (some ⟨g,0,none⟩) n cp) src sn pk sl sv W) {i : Nat} {x : Value × Value × Ps} (hi : pl[i]? = some x) (v : Int) : MS w0 M nv out c (pl.set i (x.1,x.2.1,{ x.2.2 with slot := v })) (.slice (some ⟨g,0,none⟩) n cp) src sn pk sl sv (W.setCell ⟨g,i * 8 + 6,none⟩ (.int .i64 v)) := by
  have hil : i < pl.length := (List.getElem?_eq_some_iff.1 hi).1
  have hn : n = pl.length := by
    rcases h.pr.2 with ⟨h1,_⟩ | ⟨g',cap,cur,h1,_⟩
    · cases h1
    · cases h1; rfl
  subst hn
  have hM : M ≠ g := fun e => own_apartM h.pr h.hm (by decide) (by rw [e]; rfl)
  have k1 : ∀ {B s n : Nat} {e : TypeId} {v' : Value} {xs : List Value},W.ownsRow B e s v' n xs → e ≠ 37 → (W.setCell ⟨g,i * 8 + 6,none⟩ (.int .i64 v)).ownsRow B e s v' n xs := fun hr ht => row_keep2 ⟨g,i * 8 + 6,none⟩ hr (fun e => rows_apart hr h.pr ht e rfl) _
  refine ⟨?_,h.hM,?_,fun y hy => ?_,k1 h.sr (by decide),h.below.setCell (World.ownsRow.lt h.pr g rfl).1 _⟩
  · rw [Below.heap_setCell _ _ _ _ hM]
    exact h.hm
  · rw [List.length_set,← pcs_set pl i x 6 (.int .i64 v) (x.1,x.2.1,{ x.2.2 with slot := v }) hi (by omega) rfl]
    exact row_put h.pr _ _ (by omega)
  · have : OwnP W w0.heap.size y.1 (ofN y.2.2.nodes) ∧ OwnP W w0.heap.size y.2.1 y.2.2.reads := by
      rcases List.mem_or_eq_of_mem_set hy with h2 | rfl
      · exact h.pi y h2
      · exact h.pi x (List.mem_of_getElem? hi)
    exact ⟨k1 this.1 (by decide),k1 this.2 (by decide)⟩
theorem psl_set (pl : List (Value × Value × Ps)) (i : Nat) (x : Value × Value × Ps) : psl (pl.set i x) = (psl pl).set i x.2.2 := by simp [psl,List.map_set]
end
theorem usedS_take (sl : List (Int × Int)) {j : Nat} (hj : j < sl.length) : usedS (sl.take (j + 1)) = usedS (sl.take j) + (if 0 ≤ (sl.getD j (0,0)).2 then (sl.getD j (0,0)).1 else 0) := by
  have e : sl.take (j + 1) = sl.take j ++ [sl.getD j (0,0)] := by
    rw [List.take_add_one]
    simp [hj]
  rw [e,usedS_app]
  simp [usedS]
theorem usedS_bd : ∀ (l : List (Int × Int)),(∀ s ∈ l,0 ≤ s.1 ∧ s.1 ≤ 1099511627776) → 0 ≤ usedS l ∧ usedS l ≤ l.length * 1099511627776
  | [],_ => by simp [usedS]
  | s :: l,h => by
    have ih := usedS_bd l fun x hx => h x (List.mem_cons_of_mem _ hx)
    have h0 := h s (List.mem_cons_self ..)
    unfold usedS
    rw [List.length_cons]
    have : ((l.length + 1 : Nat) : Int) * 1099511627776 = l.length * 1099511627776 + 1099511627776 := by
      rw [Int.natCast_add,Int.add_mul]; rfl
    rw [this]
    split <;> omega
set_option maxHeartbeats 3200000 in
theorem used_c {w0 : World} {M : Nat} {nv pv sv : Value} {out : Int} {c : Cf} {pl : List (Value × Value × Ps)} {src : Rc} {sn pk : Int} {sl : List (Int × Int)} (w : World) (hm : MS w0 M nv out c pl pv src sn pk sl sv w) (hl : sl.length ≤ 100) (hsz : ∀ s ∈ sl,0 ≤ s.1 ∧ s.1 ≤ 1099511627776) :
    Calls Tryz.prog 33 #[.pointer (some ⟨M,0,none⟩)] w (PPost w (.int .i64 (usedS sl))) := by
  have c14 := hm.box.cell 14 rfl
  obtain ⟨a,cap,rfl,hcell⟩ := scs_cell hm.sr
  obtain ⟨n,hn⟩ : ∃ n,n = sl.length := ⟨_,rfl⟩
  have HC : Hid (∀ W,Below w.heap.size w W → ∀ j,j < n → ∃ g,a = some ⟨g,0,none⟩ ∧ W.cell? ⟨g,j * 2,none⟩ = some (.int .i64 (sl.getD j (0,0)).1) ∧ W.cell? ⟨g,j * 2 + 1,none⟩ = some (.int .i64 (sl.getD j (0,0)).2)) := fun W hb j hj => by
    obtain ⟨g,h1,h2,h3,h4,h5,_⟩ := hcell j (hn ▸ hj)
    exact ⟨g,h1,(hb.cell h3).trans h4,(hb.cell h3).trans h5⟩
  have HN : Hid (n = sl.length ∧ (∀ j,j < n → usedS (sl.take (j + 1)) = usedS (sl.take j) + (if 0 ≤ (sl.getD j (0,0)).2 then (sl.getD j (0,0)).1 else 0)) ∧ (∀ j,j ≤ n → 0 ≤ usedS (sl.take j) ∧ usedS (sl.take j) ≤ 109951162777600) ∧ (∀ j,j < n → 0 ≤ (sl.getD j (0,0)).1 ∧ (sl.getD j (0,0)).1 ≤ 1099511627776)) := by
    have : n = sl.length ∧ (∀ j,j < n → usedS (sl.take (j + 1)) = usedS (sl.take j) + (if 0 ≤ (sl.getD j (0,0)).2 then (sl.getD j (0,0)).1 else 0)) ∧ (∀ j,j ≤ n → 0 ≤ usedS (sl.take j) ∧ usedS (sl.take j) ≤ 109951162777600) ∧ (∀ j,j < n → 0 ≤ (sl.getD j (0,0)).1 ∧ (sl.getD j (0,0)).1 ≤ 1099511627776) := by
      refine ⟨hn,fun j hj => usedS_take sl (hn ▸ hj),fun j hj => ?_,fun j hj => hsz _ (getD_mem _ (hn ▸ hj))⟩
      have := usedS_bd (sl.take j) fun s hs => hsz s (List.mem_of_mem_take hs)
      have h2 : (sl.take j).length ≤ 100 := by rw [List.length_take]; omega
      omega
    exact this
  rw [← hn] at c14
  have hn1 : n ≤ 100 := by omega
  obtain ⟨U,hU⟩ : ∃ U,U = usedS sl := ⟨_,rfl⟩
  have HU : Hid (usedS (sl.take n) = U) := by
    have : usedS (sl.take n) = U := by rw [hn,List.take_length,hU]
    exact this
  rw [← hU]
  clear hm hcell hn hl hsz hU
  go_enter Tryz.func33,Tryz.ntmps33
  go_wp2_with fail
  go_loopw [3,11] (fun uv jv wr => ∃ (j : Nat) (u : Int),j ≤ n ∧ jv = .int .i64 j ∧ uv = .int .i64 u ∧ Hid (u = usedS (sl.take j)) ∧ Below w.heap.size w wr) (fun _ jv _ => n - (intOf jv).toNat)
  case atStart => exact ⟨0,0,by omega,rfl,rfl,(show (0 : Int) = usedS (sl.take 0) by simp [usedS]),Below.refl _ _⟩
  case round =>
    obtain ⟨j,u,hj,rfl,rfl,hu,hb⟩ := hrel
    have HB : Hid (Below w.heap.size w wr) := hb
    by_cases h1 : j < n
    · obtain ⟨g,rfl,hc0,hc1⟩ := HC.out wr hb j h1
      obtain ⟨z,hz⟩ : ∃ z,z = sl.getD j (0,0) := ⟨_,rfl⟩
      have hst := HN.out.2.1 j h1
      have hbd := HN.out.2.2.1 j (by omega)
      have hbe := HN.out.2.2.2 j h1
      rw [← hu.out,← hz] at hst
      rw [← hu.out] at hbd
      rw [← hz] at hbe hc0 hc1
      obtain ⟨z1,z2⟩ := z
      dsimp only at hc0 hc1 hbe hst
      have HST : Hid (usedS (sl.take (j + 1)) = u + if 0 ≤ z2 then z1 else 0) := hst
      have hj0 : (0 : Int) ≤ (j : Int) := by omega
      have hj1 : (j : Int) < (n : Int) := by omega
      clear hz hb hst hu
      by_cases h2 : 0 ≤ z2
      · have hd : decide (z2 ≥ 0) = true := decide_eq_true h2
        have HE : Hid (usedS (sl.take (j + 1)) = u + z1) := by
          have : usedS (sl.take (j + 1)) = u + z1 := by rw [HST.out,if_pos h2]
          exact this
        clear HST
        go_wp2_with fail
        go_roundw
        case rel => exact ⟨j + 1,u + z1,by omega,by go_num,rfl,HE.out.symm,HB.out.trans ((below_new wr _).mono HB.out.size)⟩
        case measure => simp [intOf]; omega
      · have hd : decide (z2 ≥ 0) = false := decide_eq_false h2
        have HE : Hid (usedS (sl.take (j + 1)) = u) := by
          have : usedS (sl.take (j + 1)) = u := by rw [HST.out,if_neg h2,Int.add_zero]
          exact this
        clear HST
        go_wp2_with fail
        go_roundw
        case rel => exact ⟨j + 1,u,by omega,by go_num,rfl,HE.out.symm,HB.out.trans ((below_new wr _).mono HB.out.size)⟩
        case measure => simp [intOf]; omega
    · have ej : j = n := by omega
      subst ej
      clear hb
      go_wp2_with fail
      go_ret
      exact ⟨by rw [← HU.out,← hu.out]; rfl,HB.out⟩
end Go.Proofs.YtaoamkbcegadcaaGreatDoor
/- Layer 19: release. (Printed by mk_yj.py.) -/
namespace Go.Proofs.YtaoamkbcegadcaaGreatDoor
open Go.RowKit Go.Bx Go.Od Go.Hp
attribute [local go_sem ↓] Go.wp_at_zero Go.wp_at_succ
set_option linter.unusedVariables false

def relJ (ps : List Ps) (at_ : Nat) (sl : List (Int × Int)) (j : Nat) : List (Int × Int) := relS ps at_ (sl.take j) ++ sl.drop j
theorem relJ_len (ps : List Ps) (at_ : Nat) (sl : List (Int × Int)) (j : Nat) : (relJ ps at_ sl j).length = sl.length := by
  unfold relJ
  rw [List.length_append,relS_len,List.length_take,List.length_drop]
  omega
theorem relJ_get (ps : List Ps) (at_ : Nat) (sl : List (Int × Int)) {j : Nat} (hj : j < sl.length) : (relJ ps at_ sl j).getD j (0,0) = sl.getD j (0,0) := by
  unfold relJ
  have h1 : (relS ps at_ (sl.take j)).length = j := by rw [relS_len,List.length_take]; omega
  rw [List.getD_eq_getElem?_getD,List.getElem?_append_right (by omega),h1,Nat.sub_self]
  simp [hj]
theorem relJ_next (ps : List Ps) (at_ : Nat) (sl : List (Int × Int)) {j : Nat} (hj : j < sl.length) : relJ ps at_ sl (j + 1) = if dies ps at_ (sl.getD j (0,0)) then (relJ ps at_ sl j).set j ((sl.getD j (0,0)).1,-1) else relJ ps at_ sl j := by
  unfold relJ
  have h1 : (relS ps at_ (sl.take j)).length = j := by rw [relS_len,List.length_take]; omega
  have e : sl.take (j + 1) = sl.take j ++ [sl.getD j (0,0)] := by
    rw [List.take_add_one]
    simp [hj]
  have e2 : sl.drop j = sl.getD j (0,0) :: sl.drop (j + 1) := by
    rw [List.drop_eq_getElem_cons hj]
    simp [hj]
  have e3 : relS ps at_ (sl.take (j + 1)) = relS ps at_ (sl.take j) ++ [if dies ps at_ (sl.getD j (0,0)) then ((sl.getD j (0,0)).1,-1) else sl.getD j (0,0)] := by
    rw [e]; simp [relS]
  rw [e3,e2]
  generalize relS ps at_ (sl.take j) = R at *
  subst h1
  split
  · simp
  · simp
theorem relJ_zero (ps : List Ps) (at_ : Nat) (sl : List (Int × Int)) : relJ ps at_ sl 0 = sl := by simp [relJ,relS]
theorem relJ_all (ps : List Ps) (at_ : Nat) (sl : List (Int × Int)) : relJ ps at_ sl sl.length = relS ps at_ sl := by simp [relJ]
def RlPost (w0 : World) (M : Nat) (nv : Value) (out : Int) (c : Cf) (pl : List (Value × Value × Ps)) (pv : Value) (src : Rc) (sn pk : Int) (sl : List (Int × Int)) (sv : Value) (e : Ending) (w' : World) : Prop := e = .returned undef ∧ MS w0 M nv out c pl pv src sn pk sl sv w'
set_option maxRecDepth 4000 in
set_option maxHeartbeats 6400000 in
theorem release_c {w0 : World} {M : Nat} {nv pv sv : Value} {out : Int} {c : Cf} {pl : List (Value × Value × Ps)} {src : Rc} {sn pk : Int} {sl : List (Int × Int)} (at_ : Nat) (w : World) (hm : MS w0 M nv out c pl pv src sn pk sl sv w) (hl : sl.length ≤ 100) (hlt : ∀ s ∈ sl,s.2 < pl.length) :
    Calls Tryz.prog 34 #[.pointer (some ⟨M,0,none⟩),.int .i64 at_] w (RlPost w0 M nv out c pl pv src sn pk (relS (psl pl) at_ sl) sv) := by
  have c14 := hm.box.cell 14 rfl
  obtain ⟨a,cap,rfl,_⟩ := scs_cell hm.sr
  obtain ⟨n,hn⟩ : ∃ n,n = sl.length := ⟨_,rfl⟩
  obtain ⟨R,hR⟩ : ∃ R,R = relJ (psl pl) at_ sl := ⟨_,rfl⟩
  have HR : Hid (R 0 = sl ∧ R n = relS (psl pl) at_ sl ∧ (∀ j,(R j).length = n) ∧ (∀ j,j < n → (R j).getD j (0,0) = sl.getD j (0,0)) ∧ (∀ j,j < n → R (j + 1) = if dies (psl pl) at_ (sl.getD j (0,0)) then (R j).set j ((sl.getD j (0,0)).1,-1) else R j) ∧ (∀ j,j < n → (sl.getD j (0,0)).2 < pl.length)) := by
    have : R 0 = sl ∧ R n = relS (psl pl) at_ sl ∧ (∀ j,(R j).length = n) ∧ (∀ j,j < n → (R j).getD j (0,0) = sl.getD j (0,0)) ∧ (∀ j,j < n → R (j + 1) = if dies (psl pl) at_ (sl.getD j (0,0)) then (R j).set j ((sl.getD j (0,0)).1,-1) else R j) ∧ (∀ j,j < n → (sl.getD j (0,0)).2 < pl.length) := by
      rw [hR,hn]
      exact ⟨relJ_zero _ _ _,relJ_all _ _ _,relJ_len _ _ _,fun j hj => relJ_get _ _ _ hj,fun j hj => relJ_next _ _ _ hj,fun j hj => hlt _ (getD_mem _ hj)⟩
    exact this
  have H0 : Hid (MS w0 M nv out c pl pv src sn pk (R 0) (.slice a n cap) w) := by
    have : MS w0 M nv out c pl pv src sn pk (R 0) (.slice a n cap) w := by rw [HR.out.1,hn]; exact hm
    exact this
  rw [← hn] at c14 ⊢
  have hn1 : n ≤ 100 := by omega
  obtain ⟨pn,hpn⟩ : ∃ n,n = pl.length := ⟨_,rfl⟩
  have HPN : Hid (pn = pl.length) := hpn
  obtain ⟨F,hF⟩ : ∃ F,F = relS (psl pl) at_ sl := ⟨_,rfl⟩
  have HF : Hid (R n = F) := by
    have : R n = F := by rw [hF]; exact HR.out.2.1
    exact this
  rw [← hF]
  clear hm hn hl hlt hR hpn hF
  go_enter Tryz.func34,Tryz.ntmps34
  go_wp2_with fail
  go_loopw [11] (fun jv wr => ∃ (j : Nat),j ≤ n ∧ jv = .int .i64 j ∧ MS w0 M nv out c pl pv src sn pk (R j) (.slice a n cap) wr) (fun jv _ => n - (intOf jv).toNat)
  case atStart => exact ⟨0,by omega,rfl,H0.out⟩
  case round =>
    obtain ⟨j,hj,rfl,hm⟩ := hrel
    clear H0
    by_cases h1 : j < n
    · have HN := HR.out.2.2.2.2.1 j h1
      have hgj := HR.out.2.2.2.1 j h1
      have hol := HR.out.2.2.2.2.2 j h1
      obtain ⟨a',c',hv,hcell⟩ := scs_cell hm.sr
      rw [HR.out.2.2.1 j] at hv hcell
      obtain ⟨g,hg0,hgB,hgl,hc0,hc1,hfz⟩ := hcell j h1
      simp only [Value.slice.injEq] at hv
      obtain ⟨rfl,_,rfl⟩ := hv
      subst hg0
      rw [hgj] at hc0 hc1
      obtain ⟨z,hz⟩ : ∃ z,z = sl.getD j (0,0) := ⟨_,rfl⟩
      rw [← hz] at hc0 hc1 HN hol
      obtain ⟨z1,z2⟩ := z
      dsimp only at hc0 hc1 HN hol
      have hset := fun W (hm' : MS w0 M nv out c pl pv src sn pk (R j) (.slice (some ⟨g,0,none⟩) n cap) W) => hm'.setSlot (i := j) (by rw [HR.out.2.2.1 j]; exact h1) (-1)
      rw [hgj,← hz] at hset
      have HSET : Hid _ := hset
      have HNX : Hid (R (j + 1) = if dies (psl pl) at_ (z1,z2) then (R j).set j (z1,-1) else R j) := HN
      have hj0 : (0 : Int) ≤ (j : Int) := by omega
      have hj1 : (j : Int) < (n : Int) := by omega
      have hbw := below_new wr (.cells #[.int .i64 z1,.int .i64 z2] 73)
      have X := Box.new wr [.int .i64 z1,.int .i64 z2] 73
      have HM : Hid (MS w0 M nv out c pl pv src sn pk (R j) (.slice (some ⟨g,0,none⟩) n cap) (wr.alloc (.cells #[.int .i64 z1,.int .i64 z2] 73))) := hm.call hbw
      have HFZ : Hid (∀ W,Below wr.heap.size wr W → W.frozen? ⟨g,j * 2 + 1,none⟩ = false ∧ W.cell? ⟨g,j * 2 + 1,none⟩ = some (.int .i64 z2) ∧ W.cell? ⟨M,14,none⟩ = some (.slice (some ⟨g,0,none⟩) n cap)) := fun W hW => ⟨(hW.frozen hgl).trans (hfz _),(hW.cell hgl).trans hc1,(hm.call hW).box.cell 14 rfl⟩
      have HBW : Hid (Below wr.heap.size wr (wr.alloc (.cells #[.int .i64 z1,.int .i64 z2] 73))) := hbw
      have k9 := fun s : Kept (wr.alloc (.cells #[.int .i64 z1,.int .i64 z2] 73)).heap.size (wr.alloc (.cells #[.int .i64 z1,.int .i64 z2] 73)) => s.at (X.cell 1 rfl)
      by_cases h2 : 0 ≤ z2
      · obtain ⟨o,rfl⟩ := Int.eq_ofNat_of_zero_le h2
        have hd : decide ((o : Int) ≥ 0) = true := decide_eq_true h2
        have hol2 : o < pl.length := by omega
        obtain ⟨y,hy⟩ : ∃ y,y = (psl pl).getD o Ps.none := ⟨_,rfl⟩
        obtain ⟨pg,pcap,na,nc,ra,rc,rfl,_,_,hmx,_,hpc,_,_⟩ := HM.out.prs.at hol2 hy
        have c7 := HM.out.box.cell 7 rfl
        obtain ⟨q0,q1,q2,q3,q4,q5,q6,q7⟩ := hpc
        rw [← HPN.out] at c7 hol2 hmx
        obtain ⟨lo,hlo⟩ : ∃ l,l = y.last := ⟨_,rfl⟩
        rw [← hlo] at q7
        have HD : Hid (dies (psl pl) at_ (z1,(o : Int)) = decide (lo = (at_ : Int))) := by
          have : dies (psl pl) at_ (z1,(o : Int)) = decide (lo = (at_ : Int)) := by
            unfold dies
            dsimp only
            rw [decide_eq_true h2,Bool.true_and,Int.toNat_natCast,← hy,← hlo]
          exact this
        have k7 := fun s : Kept (wr.alloc (.cells #[.int .i64 z1,.int .i64 o] 73)).heap.size (wr.alloc (.cells #[.int .i64 z1,.int .i64 o] 73)) => s.at c7
        have k8 := fun s : Kept (wr.alloc (.cells #[.int .i64 z1,.int .i64 o] 73)).heap.size (wr.alloc (.cells #[.int .i64 z1,.int .i64 o] 73)) => s.at q7
        unfold maxLen at hmx
        have ho0 : (0 : Int) ≤ (o : Int) := by omega
        have ho1 : (o : Int) < (pn : Int) := by omega
        clear hcell hgj hz hset HN hbw X hfz q0 q1 q2 q3 q4 q5 q6 q7 c7 hlo hy hm hol hol2
        by_cases hl : lo = (at_ : Int)
        · subst hl
          have HR1 : Hid (R (j + 1) = (R j).set j (z1,-1)) := by
            have : R (j + 1) = (R j).set j (z1,-1) := by rw [HNX.out,HD.out,decide_eq_true rfl,if_pos rfl]
            exact this
          go_wp2_with fail
          refine wp_region_kept (wr.alloc (.cells #[.int .i64 z1,.int .i64 o] 73)).heap.size (by kernel_rfl) (by kernel_rfl) ?_
          repeat (go_big_quiet_step (fail))
          refine wpQuiet_nil ?_
          rintro _ ⟨s,rfl⟩
          have HMS : Hid (MS w0 M nv out c pl _ src sn pk (R j) (.slice (some ⟨g,0,none⟩) n cap) s.w) := HM.out.call s.below
          obtain ⟨f9,c9,c14⟩ := HFZ.out s.w (HBW.out.trans (s.below.mono HBW.out.size))
          clear k7 k8 k9 HM HFZ
          go_wp2_with fail
          go_roundw
          case rel => exact ⟨j + 1,by omega,by go_num,by rw [HR1.out]; exact HSET.out _ HMS.out⟩
          case measure => simp [intOf]; omega
        · have hl2 : (lo == (at_ : Int)) = false := beq_eq_false_iff_ne.2 hl
          have HR1 : Hid (R (j + 1) = R j) := by
            have : R (j + 1) = R j := by rw [HNX.out,HD.out,decide_eq_false hl]; rfl
            exact this
          clear hl
          go_wp2_with fail
          refine wp_region_kept (wr.alloc (.cells #[.int .i64 z1,.int .i64 o] 73)).heap.size (by kernel_rfl) (by kernel_rfl) ?_
          repeat (go_big_quiet_step (fail))
          refine wpQuiet_nil ?_
          rintro _ ⟨s,rfl⟩
          have HMS : Hid (MS w0 M nv out c pl _ src sn pk (R j) (.slice (some ⟨g,0,none⟩) n cap) s.w) := HM.out.call s.below
          clear k7 k8 k9 HM HFZ
          go_wp2_with fail
          go_roundw
          case rel => exact ⟨j + 1,by omega,by go_num,by rw [HR1.out]; exact HMS.out⟩
          case measure => simp [intOf]; omega
      · have hd : decide (z2 ≥ 0) = false := decide_eq_false h2
        have HR1 : Hid (R (j + 1) = R j) := by
          have : R (j + 1) = R j := by
            rw [HNX.out]
            unfold dies
            dsimp only
            rw [decide_eq_false h2]
            rfl
          exact this
        clear hcell hgj hz hset HN hbw X hfz hm hol h2
        go_wp2_with fail
        refine wp_region_kept (wr.alloc (.cells #[.int .i64 z1,.int .i64 z2] 73)).heap.size (by kernel_rfl) (by kernel_rfl) ?_
        repeat (go_big_quiet_step (fail))
        refine wpQuiet_nil ?_
        rintro _ ⟨s,rfl⟩
        have HMS : Hid (MS w0 M nv out c pl pv src sn pk (R j) (.slice (some ⟨g,0,none⟩) n cap) s.w) := HM.out.call s.below
        clear k9 HM HFZ
        go_wp2_with fail
        go_roundw
        case rel => exact ⟨j + 1,by omega,by go_num,by rw [HR1.out]; exact HMS.out⟩
        case measure => simp [intOf]; omega
    · have ej : j = n := by omega
      subst ej
      have HMS : Hid (MS w0 M nv out c pl pv src sn pk (R j) (.slice a j cap) wr) := hm
      clear hm
      go_wp2_with fail
      first | go_end0 | refine bodyPost_ret (results_none rfl _ _ _) rfl ?_
      exact ⟨rfl,by rw [← HF.out]; exact HMS.out⟩
end Go.Proofs.YtaoamkbcegadcaaGreatDoor
