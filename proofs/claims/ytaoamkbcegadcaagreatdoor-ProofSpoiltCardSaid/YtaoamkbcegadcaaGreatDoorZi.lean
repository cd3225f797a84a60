/- Texts joined: XZi. -/
import Derived.Test.YtaoamkbcegadcaaGreatDoorZh
set_option maxRecDepth 4000
/- Layer 20: rule 3 (lives). -/
namespace Go.Proofs.YtaoamkbcegadcaaGreatDoor
open Go.RowKit Go.Bx Go.Od Go.Hp
attribute [local go_sem ↓] Go.wp_at_zero Go.wp_at_succ
set_option linter.unusedVariables false

structure GL (B C : Nat) (G : List (List Int)) (ov : Value) (vs : List Value) (wr : World) : Prop where
  own : wr.ownsRow C 35 1 ov G.length vs
  inner : ∀ r,r < G.length → SlOf RInt 1 (· < B) wr (vs.getD r undef) (G.getD r [])
  le : B ≤ C
  leW : C ≤ wr.heap.size
section
variable {wr w' w8 : World} {B C : Nat} {ov lv : Value} {G : List (List Int)} {vs : List Value} {g : List Int}
theorem GL.nil {B C : Nat} {wr : World} (h1 : B ≤ C) (h2 : C ≤ wr.heap.size) : GL B C [] (.slice none 0 0) [] wr := ⟨World.ownsRow_nil _ _ _ _,(fun r hr => by simp at hr),h1,h2⟩
theorem GL.call (h : GL B C G ov vs wr) (hb : Below wr.heap.size wr w') : GL B C G ov vs w' := ⟨owns_below h.own hb (Nat.le_refl _),fun r hr => sl_below (h.inner r hr) (hb.mono (Nat.le_trans h.le h.leW)),h.le,Nat.le_trans h.leW hb.size⟩
theorem GL.push {g8 c8 : Nat} {o : Obj} (h : GL B C G ov vs wr) (hl : SlOf RInt 1 (· < B) wr lv g) (hown : w8.ownsRow C 35 1 (.slice (some ⟨g8,0,none⟩) (G.length + 1) c8) (G.length + 1) (vs ++ [lv])) (hg : (wr.alloc o).grownBy w8 ov.ownBlock) :
    GL B C (G ++ [g]) (.slice (some ⟨g8,0,none⟩) (G.length + 1) c8) (vs ++ [lv]) w8 := by
  have hvl : vs.length = G.length := by have := h.own.1; omega
  have hC : ∀ k,ov.ownBlock = some k → C ≤ k := fun k hk => by
    rcases h.own.2 with ⟨rfl,h0⟩ | ⟨g,cap,cur,rfl,hB,_⟩
    · cases hk
    · simp [Value.ownBlock] at hk; omega
  have hb : Below B wr w8 := by
    have h1 := below_alloc wr o
    have h2 : Below C wr (wr.alloc o) := h1.mono h.leW
    exact (h2.grown hg (Nat.le_trans h.leW h1.size) hC).mono h.le
  refine ⟨by rw [List.length_append]; exact hown,fun r hr => ?_,h.le,Nat.le_trans h.leW (Nat.le_trans (below_alloc wr o).size hg.size)⟩
  rw [List.length_append,List.length_singleton] at hr
  by_cases e : r = G.length
  · subst e
    have e1 : (vs ++ [lv]).getD G.length undef = lv := by rw [← hvl]; simp
    have e2 : (G ++ [g]).getD G.length [] = g := by simp
    rw [e1,e2]
    exact sl_below hl hb
  · have e1 : (vs ++ [lv]).getD r undef = vs.getD r undef := by
      simp only [List.getD_eq_getElem?_getD]
      rw [List.getElem?_append_left (by omega)]
    have e2 : (G ++ [g]).getD r [] = G.getD r [] := by
      simp only [List.getD_eq_getElem?_getD]
      rw [List.getElem?_append_left (by omega)]
    rw [e1,e2]
    exact sl_below (h.inner r (by omega)) hb
theorem GL.ll (h : GL B C G ov vs wr) : LL wr.heap.size wr ov G := by
  rcases h.own.2 with ⟨rfl,h0⟩ | ⟨g,cap,cur,rfl,hB,hb,hnc,hcm,_⟩
  · exact ⟨none,0,by rw [h0],by omega,by decide,.inl (List.eq_nil_of_length_eq_zero h0)⟩
  · refine ⟨_,cap,rfl,hnc,hcm,.inr ⟨g,0,rfl,(Array.getElem?_eq_some_iff.1 hb).1,fun i x hi => ?_⟩⟩
    obtain ⟨hil,hx⟩ := List.getElem?_eq_some_iff.1 hi
    have e : G.getD i [] = x := by simp [hi]
    have h1 := h.inner i hil
    rw [e] at h1
    refine ⟨[vs.getD i undef],rfl,fun j u hu => ?_,_,rfl,SlOf.mono RInt.ok (fun b hb => by have : b < B := hb; have := h.le; have := h.leW; show b < wr.heap.size; omega) h1⟩
    cases j with
    | zero =>
      simp at hu
      subst hu
      rw [Nat.zero_add,Nat.mul_one,Nat.add_zero,World.ownsRow.cellAt h.own i (by omega)]
      have := h.own.1
      have hiv : i < vs.length := by omega
      simp [hiv]
    | succ j => simp at hu
end
def grpP (ps : List Ps) : List (List Int) := ps.map fun p => ofN p.nodes
theorem grpP_len (ps : List Ps) : (grpP ps).length = ps.length := by simp [grpP]
theorem grpP_take {ps : List Ps} {i : Nat} (hi : i < ps.length) : grpP (ps.take (i + 1)) = grpP (ps.take i) ++ [ofN (ps.getD i Ps.none).nodes] := by
  unfold grpP
  rw [List.take_add_one,List.map_append,List.getElem?_eq_getElem hi]
  simp [hi]
theorem all_congr {f g : Nat → Bool} {n : Nat} (h : ∀ u,u < n → f u = g u) : (List.range n).all f = (List.range n).all g := by
  rw [Bool.eq_iff_iff,List.all_eq_true,List.all_eq_true]
  exact ⟨fun hf u hu => by rw [← h u (List.mem_range.1 hu)]; exact hf u hu,fun hf u hu => by rw [h u (List.mem_range.1 hu)]; exact hf u hu⟩
set_option maxRecDepth 4000 in
set_option maxHeartbeats 6400000 in
theorem qlives_c {B q m : Nat} {nv pv : Value} {nds : List Nd} {out : Int} {want : Rc} {c : Cf} {p : Pn} (w : World) (hq : QM B q m nv nds out want c pv p w) (hk : GrpOk nds (grpP p.ps)) :
    Calls Tryz.prog 18 #[.pointer (some ⟨q,0,none⟩)] w (PPost w (.bool (ck3 nds out p.ps))) := by
  obtain ⟨iS,hiS,sz0,sz1,sz2⟩ := info_parts infoS
  obtain ⟨P,hPe⟩ : ∃ P,P = p.ps.length := ⟨_,rfl⟩
  have HPE : Hid (P = p.ps.length) := hPe
  have hP : P ≤ 900 := by have := hk.len; rw [grpP_len] at this; omega
  obtain ⟨a,cap,rfl⟩ := hq.sl
  have q11 := hq.box.cell 11 rfl
  rw [← hPe] at q11
  have HQ : Hid (QM B q m nv nds out want c (.slice a p.ps.length cap) p w) := hq
  have HOK : Hid (GrpOk nds (grpP p.ps)) := hk
  obtain ⟨ck,hck⟩ : ∃ ck,ck = ck3 nds out p.ps := ⟨_,rfl⟩
  have HCK : Hid (ck = ck3 nds out p.ps) := hck
  rw [← hck]
  clear hq hk hPe hck
  go_enter Tryz.func18,Tryz.ntmps18
  go_wp2_with fail
  go_loopw [3,16] (fun ov iv wr => ∃ i : Nat,i ≤ P ∧ iv = .int .i64 i ∧ (∃ oa oc,ov = .slice oa i oc ∧ Hid (∃ vs,GL B w.heap.size (grpP (p.ps.take i)) (.slice oa i oc) vs wr)) ∧ Hid (Below w.heap.size w wr)) (fun ov iv _ => P - (intOf iv).toNat)
  case atStart => exact ⟨0,by omega,rfl,⟨none,0,rfl,[],GL.nil HQ.out.hB (Nat.le_refl _)⟩,Below.refl _ _⟩
  case round =>
    obtain ⟨i,hi,rfl,⟨oa,oc,rfl,hgl⟩,hbw⟩ := hrel
    by_cases h1 : i < P
    · have hip : i < p.ps.length := by rw [← HPE.out]; exact h1
      have HIP : Hid (i < p.ps.length) := hip
      obtain ⟨y,hy⟩ : ∃ y,y = p.ps.getD i Ps.none := ⟨_,rfl⟩
      have HY : Hid (y = p.ps.getD i Ps.none) := hy
      have HQ1 : Hid (QM B q m nv nds out want c (.slice a p.ps.length cap) p wr) := HQ.out.call hbw.out
      obtain ⟨b,o,na,nc,ra,rc,rfl,hbB,hpc,hs1,hs2⟩ := HQ1.out.gp.at hip hy
      obtain ⟨k0,k1,k2,k3,k4,k5,k6,k7⟩ := hpc
      obtain ⟨L,hL⟩ : ∃ L,L = y.nodes.length := ⟨_,rfl⟩
      obtain ⟨rl,hrl⟩ : ∃ l,l = y.reads.length := ⟨_,rfl⟩
      rw [← hL] at k0 hs1
      rw [← hrl] at k1
      have X := Box.new wr [.slice na L nc,.slice ra rl rc,.int .i64 y.box.x0,.int .i64 y.box.y0,.int .i64 y.box.x1,.int .i64 y.box.y1,.int .i64 y.slot,.int .i64 y.last] 37
      have x0 := X.cell 0 rfl
      have hbn := below_new wr (.cells #[.slice na L nc,.slice ra rl rc,.int .i64 y.box.x0,.int .i64 y.box.y0,.int .i64 y.box.x1,.int .i64 y.box.y1,.int .i64 y.slot,.int .i64 y.last] 37)
      obtain ⟨vs,hgl⟩ := hgl.out
      have hgl1 := hgl.call hbn
      have hlen : (grpP (p.ps.take i)).length = i := by rw [grpP_len,List.length_take]; omega
      have hown := hgl1.own
      rw [hlen] at hown
      have hs1b := sl_below hs1 (hbn.mono HQ1.out.hB)
      have HPU : Hid (∀ (o : Obj) (w8 : World) (g8 c8 : Nat),((wr.alloc (.cells #[.slice na L nc,.slice ra rl rc,.int .i64 y.box.x0,.int .i64 y.box.y0,.int .i64 y.box.x1,.int .i64 y.box.y1,.int .i64 y.slot,.int .i64 y.last] 37)).alloc o).grownBy w8 (Value.slice oa i oc).ownBlock → w8.ownsRow w.heap.size 35 1 (.slice (some ⟨g8,0,none⟩) (i + 1) c8) (i + 1) (vs ++ [.slice na L nc]) → GL B w.heap.size (grpP (p.ps.take (i + 1))) (.slice (some ⟨g8,0,none⟩) (i + 1) c8) (vs ++ [.slice na L nc]) w8 ∧ Below w.heap.size w w8) := fun o w8 g8 c8 hg hown8 => by
        have hh := GL.push (g := ofN y.nodes) (lv := .slice na L nc) (o := o) (g8 := g8) (c8 := c8) (w8 := w8) hgl1 hs1b (by rw [hlen]; exact hown8) hg
        rw [hlen,HY.out,← grpP_take hip] at hh
        have hbb : Below w.heap.size w (wr.alloc (.cells #[.slice na L nc,.slice ra rl rc,.int .i64 y.box.x0,.int .i64 y.box.y0,.int .i64 y.box.x1,.int .i64 y.box.y1,.int .i64 y.slot,.int .i64 y.last] 37)) := hbw.out.trans (hbn.mono hbw.out.size)
        have hC : ∀ k,(Value.slice oa i oc).ownBlock = some k → w.heap.size ≤ k := fun k hk => by
          rcases hown.2 with ⟨e,h0⟩ | ⟨g,cap,cur,e,hB,_⟩
          · rw [e] at hk; cases hk
          · rw [e] at hk; simp [Value.ownBlock] at hk; omega
        exact ⟨hh,(hbb.alloc hbb.size o).grown hg (Nat.le_trans hbb.size (below_alloc _ o).size) hC⟩
      have HO : Hid ((wr.alloc (.cells #[.slice na L nc,.slice ra rl rc,.int .i64 y.box.x0,.int .i64 y.box.y0,.int .i64 y.box.x1,.int .i64 y.box.y1,.int .i64 y.slot,.int .i64 y.last] 37)).ownsRow w.heap.size 35 1 (.slice oa i oc) i vs) := hown
      have HM : Hid (i + 1 ≤ maxLen ∧ (i + 1) * 24 ≤ 140737488355328) := by constructor <;> (try unfold maxLen) <;> omega
      have HWS : Hid (w.heap.size ≤ wr.heap.size) := hbw.out.size
      have hi0 : (0 : Int) ≤ (i : Int) := by omega
      have hi1 : (i : Int) < (P : Int) := by omega
      clear hy hip hs1 hs2 hL hrl hown hgl hgl1 hlen hs1b hbn X
      go_wp2_with (at_builtin; refine wpList_append_lies _ rfl _ _ 61 rfl w.heap.size 35 iS (.slice none 0 0) 1 24 Tryz.underlying61 hiS sz0 sz1 sz2 rfl (by decide) (.slice oa i oc) i vs rfl (HO.out.alloc (.cells #[.slice na L nc] 35)) _ 1 1 [.slice na L nc] rfl rfl (news_one (by simp)) (by simp [Value.oneCell']) (by decide) HM.out.1 HM.out.2 (by first | (have := HWS.out; simp; omega)) _ rfl ?_; intro g8 c8 w8 hown8 hgrow8 hat8 hlt8; have HA := HPU.out _ w8 g8 c8 hgrow8 hown8; clear hown8 hgrow8 hat8 hlt8)
      have HA2 : Hid (∃ vs,GL B w.heap.size (grpP (p.ps.take (i + 1))) (.slice (some ⟨g8,0,none⟩) (i + 1) c8) vs w8) := ⟨_,HA.1⟩
      have HA3 : Hid (Below w.heap.size w w8) := HA.2
      clear HA
      go_roundw
      case rel => exact ⟨i + 1,by omega,by go_num,⟨_,_,by first | rfl | go_num,HA2⟩,HA3⟩
      case measure => simp [intOf]; omega
    · have ei : i = P := by omega
      have htk : p.ps.take P = p.ps := by rw [HPE.out,List.take_length]
      rw [ei,htk] at hgl
      subst ei
      have H3 : Hid (QM B q m nv nds out want c (.slice a p.ps.length cap) p wr ∧ w.heap.size ≤ wr.heap.size) := ⟨HQ.out.call hbw.out,hbw.out.size⟩
      obtain ⟨R,hR⟩ : ∃ R,R = (grpP p.ps).map (rdS nds) := ⟨_,rfl⟩
      obtain ⟨us,hus⟩ : ∃ u,u = (List.range (grpP p.ps).length).map (unA ((grpP p.ps).map (rdS nds)) (grpP p.ps) out) := ⟨_,rfl⟩
      have HSP : Hid (∀ W,Below wr.heap.size wr W → Calls Tryz.prog 27 #[.agg #[nv,.int .i64 out],.slice oa i oc] W (RdPost W R) ∧ Calls Tryz.prog 28 #[.agg #[nv,.int .i64 out],.slice oa i oc] W (UnPost W us)) := fun W hW => by
        obtain ⟨vs,hgl⟩ := hgl.out
        have h1 := hgl.call hW
        have h2 := (H3.out.1.call hW)
        rw [hR,hus]
        exact ⟨readsG_c W.heap.size nv _ nds out _ W HOK.out (h2.gr.mono h2.hB) h1.ll (Nat.le_refl _),until_c W.heap.size nv _ nds out _ W HOK.out (h2.gr.mono h2.hB) h1.ll (Nat.le_refl _)⟩
      have HRL : Hid (R.length = i ∧ us.length = i) := by
        have : R.length = i ∧ us.length = i := by rw [hR,hus]; simp [grpP_len,HPE.out]
        exact this
      have HIN : Hid (∀ g ∈ R,∀ x ∈ g,In64 x) := by rw [hR]; exact HOK.out.in64
      have HRS : Hid (R = (grpP p.ps).map (rdS nds) ∧ us = (List.range (grpP p.ps).length).map (unA ((grpP p.ps).map (rdS nds)) (grpP p.ps) out)) := ⟨hR,hus⟩
      clear hR hus hgl htk
      go_wp2_with fail
      rename_i K hK
--REG7
      refine wp_region_mono (QT [.pointer (some ⟨q,0,none⟩),.pointer (some ⟨q,0,none⟩),.pointer (some ⟨q,0,none⟩),.agg #[nv,.int .i64 out],.slice oa i oc,undef,.pointer (some ⟨q,0,none⟩),.pointer (some ⟨q,0,none⟩),.pointer (some ⟨q,0,none⟩),.agg #[nv,.int .i64 out],.slice oa i oc,undef,undef] [5,11,12] (BR3 w.heap.size i R us)) 13 _ rfl rfl (by kernel_rfl) (by kernel_rfl) (QT.stab BR3.stab) ?hop ?hlast
      case hop =>
        refine Each.get (n := 13) ⟨⟨⟨⟨⟨⟨⟨⟨⟨⟨⟨⟨⟨trivial,?h0⟩,?h1⟩,?h2⟩,?h3⟩,?h4⟩,?h5⟩,?h6⟩,?h7⟩,?h8⟩,?h9⟩,?h10⟩,?h11⟩,?h12⟩
        case h0 =>
          refine OpOk.plain (by kernel_rfl) _ rfl rfl fun vs ev W hf hb hd => ?_
          have e0 : ev (.tmp 0) = .pointer (some ⟨q,0,none⟩) := hf.off 0 rfl
          clear hK
          exact gives_mono (R := fun v w' => v = .pointer (some ⟨q,0,none⟩) ∧ w' = W) (by simp [gives,go_sem,e0]) fun _ _ ⟨h1,h2⟩ => by subst h2; exact ⟨.inr ⟨by decide,h1⟩,Below.refl _ _⟩
        case h1 =>
          refine OpOk.plain (by kernel_rfl) _ rfl rfl fun vs ev W hf hb hd => ?_
          have e0 : ev (.tmp 26) = .pointer (some ⟨q,0,none⟩) := (hf.of 0 _ 26 rfl rfl rfl (of_decide_eq_true rfl)).trans ((hd 0 (by kernel_rfl)).val (by decide))
          clear hK
          exact gives_mono (R := fun v w' => v = .pointer (some ⟨q,0,none⟩) ∧ w' = W) (by simp [gives,go_sem,e0]) fun _ _ ⟨h1,h2⟩ => by subst h2; exact ⟨.inr ⟨by decide,h1⟩,Below.refl _ _⟩
        case h2 =>
          refine OpOk.plain (by kernel_rfl) _ rfl rfl fun vs ev W hf hb hd => ?_
          have e0 : ev (.tmp 27) = .pointer (some ⟨q,0,none⟩) := (hf.of 1 _ 27 rfl rfl rfl (of_decide_eq_true rfl)).trans ((hd 1 (by kernel_rfl)).val (by decide))
          clear hK
          exact gives_mono (R := fun v w' => v = .pointer (some ⟨q,0,none⟩) ∧ w' = W) (by simp [gives,go_sem,e0]) fun _ _ ⟨h1,h2⟩ => by subst h2; exact ⟨.inr ⟨by decide,h1⟩,Below.refl _ _⟩
        case h3 =>
          refine OpOk.plain (by kernel_rfl) _ rfl rfl fun vs ev W hf hb hd => ?_
          have e0 : ev (.tmp 28) = .pointer (some ⟨q,0,none⟩) := (hf.of 2 _ 28 rfl rfl rfl (of_decide_eq_true rfl)).trans ((hd 2 (by kernel_rfl)).val (by decide))
          have d0 := (H3.out.1.call hb).box.cell 0 rfl
          have d1 := (H3.out.1.call hb).box.cell 1 rfl
          clear hK
          exact gives_mono (R := fun v w' => v = .agg #[nv,.int .i64 out] ∧ w' = W) (by simp [gives,go_sem,e0,d0,d1]) fun _ _ ⟨h1,h2⟩ => by subst h2; exact ⟨.inr ⟨by decide,h1⟩,Below.refl _ _⟩
        case h4 =>
          refine OpOk.plain (by kernel_rfl) _ rfl rfl fun vs ev W hf hb hd => ?_
          have e0 : ev (.tmp 3) = .slice oa i oc := hf.off 3 rfl
          clear hK
          exact gives_mono (R := fun v w' => v = .slice oa i oc ∧ w' = W) (by simp [gives,go_sem,e0]) fun _ _ ⟨h1,h2⟩ => by subst h2; exact ⟨.inr ⟨by decide,h1⟩,Below.refl _ _⟩
        case h5 =>
          refine OpOk.plain (by kernel_rfl) _ rfl rfl fun vs ev W hf hb hd => ?_
          have e0 : ev (.tmp 29) = .agg #[nv,.int .i64 out] := (hf.of 3 _ 29 rfl rfl rfl (of_decide_eq_true rfl)).trans ((hd 3 (by kernel_rfl)).val (by decide))
          have e1 : ev (.tmp 30) = .slice oa i oc := (hf.of 4 _ 30 rfl rfl rfl (of_decide_eq_true rfl)).trans ((hd 4 (by kernel_rfl)).val (by decide))
          refine gives_mono (R := fun v w' => ∃ e,e = Ending.returned v ∧ RdPost W R e w') ?_ ?_
          · have hc := (HSP.out W hb).1
            clear hK
            have ef := hf.func 27
            simp [gives,execOp,resolve,invoke,e0,e1,ef,go_sem]
            exact hc.mono fun e w' h => by
              obtain ⟨a,c,vs,he,h2,h3⟩ := h
              exact ⟨_,he,a,c,vs,rfl,h2,h3⟩
          · rintro v w' ⟨e,he,a,c,vs,he2,h2,h3⟩
            rw [he] at he2
            cases he2
            exact ⟨.inl ⟨by decide,a,c,vs,by rw [HRL.out.1],HRL.out.1 ▸ h2.mono (Nat.le_trans H3.out.2 hb.size)⟩,h3⟩
        case h6 =>
          refine OpOk.plain (by kernel_rfl) _ rfl rfl fun vs ev W hf hb hd => ?_
          have e0 : ev (.tmp 0) = .pointer (some ⟨q,0,none⟩) := hf.off 0 rfl
          clear hK
          exact gives_mono (R := fun v w' => v = .pointer (some ⟨q,0,none⟩) ∧ w' = W) (by simp [gives,go_sem,e0]) fun _ _ ⟨h1,h2⟩ => by subst h2; exact ⟨.inr ⟨by decide,h1⟩,Below.refl _ _⟩
        case h7 =>
          refine OpOk.plain (by kernel_rfl) _ rfl rfl fun vs ev W hf hb hd => ?_
          have e0 : ev (.tmp 32) = .pointer (some ⟨q,0,none⟩) := (hf.of 6 _ 32 rfl rfl rfl (of_decide_eq_true rfl)).trans ((hd 6 (by kernel_rfl)).val (by decide))
          clear hK
          exact gives_mono (R := fun v w' => v = .pointer (some ⟨q,0,none⟩) ∧ w' = W) (by simp [gives,go_sem,e0]) fun _ _ ⟨h1,h2⟩ => by subst h2; exact ⟨.inr ⟨by decide,h1⟩,Below.refl _ _⟩
        case h8 =>
          refine OpOk.plain (by kernel_rfl) _ rfl rfl fun vs ev W hf hb hd => ?_
          have e0 : ev (.tmp 33) = .pointer (some ⟨q,0,none⟩) := (hf.of 7 _ 33 rfl rfl rfl (of_decide_eq_true rfl)).trans ((hd 7 (by kernel_rfl)).val (by decide))
          clear hK
          exact gives_mono (R := fun v w' => v = .pointer (some ⟨q,0,none⟩) ∧ w' = W) (by simp [gives,go_sem,e0]) fun _ _ ⟨h1,h2⟩ => by subst h2; exact ⟨.inr ⟨by decide,h1⟩,Below.refl _ _⟩
        case h9 =>
          refine OpOk.plain (by kernel_rfl) _ rfl rfl fun vs ev W hf hb hd => ?_
          have e0 : ev (.tmp 34) = .pointer (some ⟨q,0,none⟩) := (hf.of 8 _ 34 rfl rfl rfl (of_decide_eq_true rfl)).trans ((hd 8 (by kernel_rfl)).val (by decide))
          have d0 := (H3.out.1.call hb).box.cell 0 rfl
          have d1 := (H3.out.1.call hb).box.cell 1 rfl
          clear hK
          exact gives_mono (R := fun v w' => v = .agg #[nv,.int .i64 out] ∧ w' = W) (by simp [gives,go_sem,e0,d0,d1]) fun _ _ ⟨h1,h2⟩ => by subst h2; exact ⟨.inr ⟨by decide,h1⟩,Below.refl _ _⟩
        case h10 =>
          refine OpOk.plain (by kernel_rfl) _ rfl rfl fun vs ev W hf hb hd => ?_
          have e0 : ev (.tmp 3) = .slice oa i oc := hf.off 3 rfl
          clear hK
          exact gives_mono (R := fun v w' => v = .slice oa i oc ∧ w' = W) (by simp [gives,go_sem,e0]) fun _ _ ⟨h1,h2⟩ => by subst h2; exact ⟨.inr ⟨by decide,h1⟩,Below.refl _ _⟩
        case h11 =>
          refine OpOk.plain (by kernel_rfl) _ rfl rfl fun vs ev W hf hb hd => ?_
          have e0 : ev (.tmp 35) = .agg #[nv,.int .i64 out] := (hf.of 9 _ 35 rfl rfl rfl (of_decide_eq_true rfl)).trans ((hd 9 (by kernel_rfl)).val (by decide))
          have e1 : ev (.tmp 36) = .slice oa i oc := (hf.of 10 _ 36 rfl rfl rfl (of_decide_eq_true rfl)).trans ((hd 10 (by kernel_rfl)).val (by decide))
          refine gives_mono (R := fun v w' => ∃ e,e = Ending.returned v ∧ UnPost W us e w') ?_ ?_
          · have hc := (HSP.out W hb).2
            clear hK
            have ef := hf.func 28
            simp [gives,execOp,resolve,invoke,e0,e1,ef,go_sem]
            exact hc.mono fun e w' h => by
              obtain ⟨O,hO,he,h2⟩ := h
              exact ⟨_,he,O,hO,rfl,h2⟩
          · rintro v w' ⟨e,he,O,hO,he2,h2,h3⟩
            rw [he] at he2
            cases he2
            exact ⟨.inl ⟨by decide,O,Nat.le_trans H3.out.2 (Nat.le_trans hb.size hO),by rw [HRL.out.2],h2⟩,h3⟩
        case h12 =>
          refine OpOk.plain (by kernel_rfl) _ rfl rfl fun vs ev W hf hb hd => ?_
          obtain ⟨a',c',vs',h1',h2'⟩ := (hd 5 (by kernel_rfl)).spec (by decide)
          have e0 := (hf.of 5 _ 31 rfl rfl rfl (of_decide_eq_true rfl)).trans h1'
          clear hK
          exact gives_mono (R := fun v w' => v = .slice a' i c' ∧ w' = W) (by simp [gives,go_sem,e0]) fun _ _ ⟨h1,h2⟩ => by subst h2; exact ⟨.inl ⟨by decide,by subst h1; exact ⟨a',c',vs',rfl,h2'⟩⟩,Below.refl _ _⟩
      case hlast =>
      intro vs W hb hT
      obtain ⟨UO,n11,h11,x11⟩ := (hT 11 (by decide)).spec (by decide)
      obtain ⟨ra,rc,rvs,h12,x12⟩ := (hT 12 (by decide)).spec (by decide)
      refine last_plain (by kernel_rfl) rfl fun F ev hF hf => ?_
      have e1 := (hf.of 11 _ 37 rfl rfl rfl (of_decide_eq_true rfl)).trans h11
      have H5 : Hid (QM B q m nv nds out want c (.slice a p.ps.length cap) p W ∧ LL W.heap.size W (.slice ra i rc) R ∧ Box W UO (us.map (Value.int .i64)) ∧ Below w.heap.size w W) := ⟨H3.out.1.call hb,x12.ll HIN.out,x11,hbw.out.trans (hb.mono hbw.out.size)⟩
      refine gives_mono (R := fun v w' => v = .slice (some ⟨UO,0,none⟩) i i ∧ w' = W) (by simp [gives,go_sem,e1]) ?_
      rintro _ _ ⟨rfl,rfl⟩
      subst hF
      simp [fr,Act.put,h11,h12]
      generalize vs 0 = u0 at *
      generalize vs 1 = u1 at *
      generalize vs 2 = u2 at *
      generalize vs 3 = u3 at *
      generalize vs 4 = u4 at *
      generalize vs 5 = u5 at *
      generalize vs 6 = u6 at *
      generalize vs 7 = u7 at *
      generalize vs 8 = u8 at *
      generalize vs 9 = u9 at *
      generalize vs 10 = u10 at *
      generalize vs 11 = u11 at *
      generalize vs 12 = u12 at *
      clear hT hf h11 h12 e1
      refine hK _ _ ?_
      clear hK n11 x11 x12 hb HSP hbw
      rename World => W5
--END7
      have HEX : Hid (ck = (List.range p.ps.length).all fun u => decide ((p.ps.getD u Ps.none).reads = R.getD u []) && decide ((p.ps.getD u Ps.none).last = us.getD u 0)) := by
        have : ck = (List.range p.ps.length).all fun u => decide ((p.ps.getD u Ps.none).reads = R.getD u []) && decide ((p.ps.getD u Ps.none).last = us.getD u 0) := by
          rw [HCK.out]
          unfold ck3
          refine all_congr fun u hu => ?_
          have h1 : R.getD u [] = rdS nds (ofN (p.ps.getD u Ps.none).nodes) := by
            rw [HRS.out.1]
            unfold grpP
            simp [hu]
          have h2 : us.getD u 0 = unA ((grpP p.ps).map (rdS nds)) (grpP p.ps) out u := by
            rw [HRS.out.2]
            simp [grpP_len,hu]
          rw [h1,h2]
          rfl
        exact this
      have hq11 := H5.out.1.box.cell 11 rfl
      rw [← HPE.out] at hq11
      go_wp2_with fail
      go_loopw [44] (fun jv wr => ∃ j : Nat,j ≤ i ∧ jv = .int .i64 j ∧ Hid (∀ u,u < j → (decide ((p.ps.getD u Ps.none).reads = R.getD u []) && decide ((p.ps.getD u Ps.none).last = us.getD u 0)) = true) ∧ Hid (Below W5.heap.size W5 wr)) (fun jv _ => i - (intOf jv).toNat)
      case atStart => exact ⟨0,by omega,rfl,(fun u hu => by omega),Below.refl _ _⟩
      case round =>
        rename World => wr2
        obtain ⟨j,hj,rfl,hall,hb⟩ := hrel
        by_cases h2 : j < i
        · have hjp : j < p.ps.length := by rw [← HPE.out]; exact h2
          have HJP : Hid (j < p.ps.length) := hjp
          obtain ⟨y,hy⟩ : ∃ y,y = p.ps.getD j Ps.none := ⟨_,rfl⟩
          have HY : Hid (y = p.ps.getD j Ps.none) := hy
          have HQ2 : Hid (QM B q m nv nds out want c (.slice a p.ps.length cap) p wr2) := H5.out.1.call hb.out
          obtain ⟨b,o,na,nc,ra0,rc0,rfl,hbB,hpc,hs1,hs2⟩ := HQ2.out.gp.at hjp hy
          obtain ⟨k0,k1,k2,k3,k4,k5,k6,k7⟩ := hpc
          obtain ⟨L,hL⟩ : ∃ L,L = y.nodes.length := ⟨_,rfl⟩
          obtain ⟨rl,hrl⟩ : ∃ l,l = y.reads.length := ⟨_,rfl⟩
          obtain ⟨la,hla⟩ : ∃ l,l = y.last := ⟨_,rfl⟩
          rw [← hL] at k0 hs1
          rw [← hrl] at k1 hs2
          rw [← hla] at k7
          obtain ⟨b2,o2,c2,x,yy,hv,hb2,hrc,hrs⟩ := (H5.out.2.1.below hb.out).at (i := j) (by rw [HRL.out.1]; exact h2)
          simp only [Value.slice.injEq] at hv
          obtain ⟨hv1,hle,hv2⟩ := hv
          subst hv1
          subst hv2
          clear hle
          obtain ⟨row,hrow⟩ : ∃ r,r = R.getD j [] := ⟨_,rfl⟩
          rw [← hrow] at hrc hrs
          have huc := (H5.out.2.2.1.call hb.out).cell j (v := .int .i64 (us.getD j 0)) (by have := HRL.out.2; simp [show j < us.length by omega])
          obtain ⟨u0,hu0⟩ : ∃ u,u = us.getD j 0 := ⟨_,rfl⟩
          rw [← hu0] at huc
          have HV : Hid (row = R.getD j [] ∧ u0 = us.getD j 0 ∧ la = y.last) := ⟨hrow,hu0,hla⟩
          have X := Box.new wr2 [.slice na L nc,.slice ra0 rl rc0,.int .i64 y.box.x0,.int .i64 y.box.y0,.int .i64 y.box.x1,.int .i64 y.box.y1,.int .i64 y.slot,.int .i64 la] 37
          have x1 := X.cell 1 rfl
          have x7 := X.cell 7 rfl
          have hbn := below_new wr2 (.cells #[.slice na L nc,.slice ra0 rl rc0,.int .i64 y.box.x0,.int .i64 y.box.y0,.int .i64 y.box.x1,.int .i64 y.box.y1,.int .i64 y.slot,.int .i64 la] 37)
          have HBN : Hid (Below W5.heap.size W5 (wr2.alloc (.cells #[.slice na L nc,.slice ra0 rl rc0,.int .i64 y.box.x0,.int .i64 y.box.y0,.int .i64 y.box.x1,.int .i64 y.box.y1,.int .i64 y.slot,.int .i64 la] 37))) := hb.out.trans (hbn.mono hb.out.size)
          have hrc2 := (hbn.cell (lt_of_cell hrc)).trans hrc
          have huc2 := (hbn.cell (lt_of_cell huc)).trans huc
          have kk1 := fun s : Kept (wr2.alloc (.cells #[.slice na L nc,.slice ra0 rl rc0,.int .i64 y.box.x0,.int .i64 y.box.y0,.int .i64 y.box.x1,.int .i64 y.box.y1,.int .i64 y.slot,.int .i64 la] 37)).heap.size (wr2.alloc (.cells #[.slice na L nc,.slice ra0 rl rc0,.int .i64 y.box.x0,.int .i64 y.box.y0,.int .i64 y.box.x1,.int .i64 y.box.y1,.int .i64 y.slot,.int .i64 la] 37)) => s.at x1
          have kk2 := fun s : Kept (wr2.alloc (.cells #[.slice na L nc,.slice ra0 rl rc0,.int .i64 y.box.x0,.int .i64 y.box.y0,.int .i64 y.box.x1,.int .i64 y.box.y1,.int .i64 y.slot,.int .i64 la] 37)).heap.size (wr2.alloc (.cells #[.slice na L nc,.slice ra0 rl rc0,.int .i64 y.box.x0,.int .i64 y.box.y0,.int .i64 y.box.x1,.int .i64 y.box.y1,.int .i64 y.slot,.int .i64 la] 37)) => s.at x7
          have kk3 := fun s : Kept (wr2.alloc (.cells #[.slice na L nc,.slice ra0 rl rc0,.int .i64 y.box.x0,.int .i64 y.box.y0,.int .i64 y.box.x1,.int .i64 y.box.y1,.int .i64 y.slot,.int .i64 la] 37)).heap.size (wr2.alloc (.cells #[.slice na L nc,.slice ra0 rl rc0,.int .i64 y.box.x0,.int .i64 y.box.y0,.int .i64 y.box.x1,.int .i64 y.box.y1,.int .i64 y.slot,.int .i64 la] 37)) => s.at hrc2
          have kk4 := fun s : Kept (wr2.alloc (.cells #[.slice na L nc,.slice ra0 rl rc0,.int .i64 y.box.x0,.int .i64 y.box.y0,.int .i64 y.box.x1,.int .i64 y.box.y1,.int .i64 y.slot,.int .i64 la] 37)).heap.size (wr2.alloc (.cells #[.slice na L nc,.slice ra0 rl rc0,.int .i64 y.box.x0,.int .i64 y.box.y0,.int .i64 y.box.x1,.int .i64 y.box.y1,.int .i64 y.slot,.int .i64 la] 37)) => s.at huc2
          have kk5 : True := trivial
          have kk6 : True := trivial
          have hs2w : SlOf RInt 1 (· < wr2.heap.size) wr2 (.slice ra0 rl rc0) y.reads := SlOf.mono RInt.ok (fun b hb => by have : b < B := hb; have := HQ2.out.hB; show b < wr2.heap.size; omega) hs2
          have hrsw : SlOf RInt 1 (· < wr2.heap.size) wr2 (.slice x row.length yy) row := SlOf.mono RInt.ok (fun b hb' => by have : b < W5.heap.size := hb'; have := hb.out.size; show b < wr2.heap.size; omega) hrs
          obtain ⟨eq,heq⟩ : ∃ e,e = decide (y.reads = row) := ⟨_,rfl⟩
          have HEQ : Hid (eq = decide (y.reads = row)) := heq
          obtain ⟨rn,hrn⟩ : ∃ n,n = row.length := ⟨_,rfl⟩
          have HA : Hid (∀ s : Kept (wr2.alloc (.cells #[.slice na L nc,.slice ra0 rl rc0,.int .i64 y.box.x0,.int .i64 y.box.y0,.int .i64 y.box.x1,.int .i64 y.box.y1,.int .i64 y.slot,.int .i64 la] 37)).heap.size (wr2.alloc (.cells #[.slice na L nc,.slice ra0 rl rc0,.int .i64 y.box.x0,.int .i64 y.box.y0,.int .i64 y.box.x1,.int .i64 y.box.y1,.int .i64 y.slot,.int .i64 la] 37)),Calls Tryz.prog 38 #[.slice ra0 rl rc0,.slice x rn yy] s.w (PPost s.w (.bool eq))) := fun s => by
            have hw : Below wr2.heap.size wr2 s.w := hbn.trans (s.below.mono hbn.size)
            have h := equalS_c _ _ y.reads row s.w (sl_below hs2w hw) (sl_below hrsw hw)
            rw [← heq,← hrn] at h
            exact h
          rw [← hrn] at hrc hrc2 kk3
          have hj0 : (0 : Int) ≤ (j : Int) := by omega
          have hj1 : (j : Int) < (i : Int) := by omega
          have HFJ : Hid ((decide ((p.ps.getD j Ps.none).reads = R.getD j []) && decide ((p.ps.getD j Ps.none).last = us.getD j 0)) = (eq && decide (la = u0))) := by
            have : (decide ((p.ps.getD j Ps.none).reads = R.getD j []) && decide ((p.ps.getD j Ps.none).last = us.getD j 0)) = (eq && decide (la = u0)) := by rw [← hy,← hrow,← hu0,← hla,heq]
            exact this
          clear hy hjp hs1 hs2 hL hrl hla hrow hu0 hrs hs2w hrsw heq hrn hbn X hrc hrc2 huc huc2 hb2
          cases eq with
          | false =>
            have HE : Hid (ck = false) := by
              have : ck = false := by rw [HEX.out]; exact all_false (List.mem_range.2 HJP.out) (by rw [HFJ.out,Bool.false_and])
              exact this
            go_wp2_with fail
            refine wp_region_kept (wr2.alloc (.cells #[.slice na L nc,.slice ra0 rl rc0,.int .i64 y.box.x0,.int .i64 y.box.y0,.int .i64 y.box.x1,.int .i64 y.box.y1,.int .i64 y.slot,.int .i64 la] 37)).heap.size (by kernel_rfl) (by kernel_rfl) ?_
            repeat (go_big_quiet_step (first | (go_at_call 38; with_reducible exact Calls.kept _ (Nat.le_refl _) (HA.out _))))
            refine wpQuiet_nil ?_
            rintro _ ⟨s,rfl⟩
            have HE5 : Hid (Below W5.heap.size W5 s.w) := HBN.out.trans (s.below.mono HBN.out.size)
            clear kk1 kk2 kk3 kk4 kk5 kk6 HA x1 x7
            go_wp2_with fail
            go_ret
            exact ⟨ret_b HE.out.symm,H5.out.2.2.2.trans (HE5.out.mono H5.out.2.2.2.size)⟩
          | true =>
            by_cases hl : la = u0
            · have hl2 : (la == u0) = true := beq_iff_eq.2 hl
              have HALL : Hid (∀ u,u < j + 1 → (decide ((p.ps.getD u Ps.none).reads = R.getD u []) && decide ((p.ps.getD u Ps.none).last = us.getD u 0)) = true) := fun u hu => by
                by_cases e : u = j
                · subst e; rw [HFJ.out,decide_eq_true hl]; rfl
                · exact hall.out u (by omega)
              clear hl
              go_wp2_with fail
              refine wp_region_kept (wr2.alloc (.cells #[.slice na L nc,.slice ra0 rl rc0,.int .i64 y.box.x0,.int .i64 y.box.y0,.int .i64 y.box.x1,.int .i64 y.box.y1,.int .i64 y.slot,.int .i64 la] 37)).heap.size (by kernel_rfl) (by kernel_rfl) ?_
              repeat (go_big_quiet_step (first | (go_at_call 38; with_reducible exact Calls.kept _ (Nat.le_refl _) (HA.out _))))
              refine wpQuiet_nil ?_
              rintro _ ⟨s,rfl⟩
              have HE5 : Hid (Below W5.heap.size W5 s.w) := HBN.out.trans (s.below.mono HBN.out.size)
              clear kk1 kk2 kk3 kk4 kk5 kk6 HA x1 x7
              go_wp2_with fail
              go_roundw
              case rel => exact ⟨j + 1,by omega,by go_num,HALL,HE5⟩
              case measure => simp [intOf]; omega
            · have hl2 : (la == u0) = false := beq_eq_false_iff_ne.2 hl
              have HE : Hid (ck = false) := by
                have : ck = false := by rw [HEX.out]; exact all_false (List.mem_range.2 HJP.out) (by rw [HFJ.out,decide_eq_false hl,Bool.and_false])
                exact this
              clear hl
              go_wp2_with fail
              refine wp_region_kept (wr2.alloc (.cells #[.slice na L nc,.slice ra0 rl rc0,.int .i64 y.box.x0,.int .i64 y.box.y0,.int .i64 y.box.x1,.int .i64 y.box.y1,.int .i64 y.slot,.int .i64 la] 37)).heap.size (by kernel_rfl) (by kernel_rfl) ?_
              repeat (go_big_quiet_step (first | (go_at_call 38; with_reducible exact Calls.kept _ (Nat.le_refl _) (HA.out _))))
              refine wpQuiet_nil ?_
              rintro _ ⟨s,rfl⟩
              have HE5 : Hid (Below W5.heap.size W5 s.w) := HBN.out.trans (s.below.mono HBN.out.size)
              clear kk1 kk2 kk3 kk4 kk5 kk6 HA x1 x7
              go_wp2_with fail
              go_ret
              exact ⟨ret_b HE.out.symm,H5.out.2.2.2.trans (HE5.out.mono H5.out.2.2.2.size)⟩
        · have ej : j = i := by omega
          have HE : Hid (ck = true) := by
            have : ck = true := by rw [HEX.out]; exact all_true fun u hu => hall.out u (by rw [ej,HPE.out]; exact hu)
            exact this
          have h2b : ¬ (j : Int) < (i : Int) := by omega
          clear ej
          go_wp2_with fail
          go_ret
          exact ⟨ret_b HE.out.symm,H5.out.2.2.2.trans (hb.out.mono H5.out.2.2.2.size)⟩
end Go.Proofs.YtaoamkbcegadcaaGreatDoor
