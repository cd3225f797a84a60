/- Texts joined: XYk. -/
import Derived.Test.YtaoamkbcegadcaaGreatDoorYh
set_option maxRecDepth 4000
/- Layer 19: assign. (Printed by mk_yk.py.) -/
namespace Go.Proofs.YtaoamkbcegadcaaGreatDoor
open Go.RowKit Go.Bx Go.Od Go.Hp
attribute [local go_sem ↓] Go.wp_at_zero Go.wp_at_succ
set_option linter.unusedVariables false

structure SOk (ps0 : List Ps) (i : Nat) (s : St) : Prop where
  alk : Alk ps0 s.ps
  sz : ∀ x ∈ s.sl,0 ≤ x.1 ∧ x.1 ≤ 1099511627776
  own : ∀ x ∈ s.sl,x.2 < ps0.length
  len : s.sl.length ≤ i
  pk : 0 ≤ s.pk ∧ s.pk ≤ 109951162777600
theorem findS_ok (nds : List Nd) (c : Cf) (ps : List Ps) (i n : Nat) (sl : List (Int × Int)) (hsz : ∀ x ∈ sl,0 ≤ x.1 ∧ x.1 ≤ 1099511627776) (hown : ∀ x ∈ sl,x.2 < n) (hn : 0 < n) :
    ∃ f : Nat,(findS nds c ps i sl).1 = f ∧ f < (findS nds c ps i sl).2.length ∧ (∀ x ∈ (findS nds c ps i sl).2,(0 ≤ x.1 ∧ x.1 ≤ 1099511627776) ∧ x.2 < n) ∧ (findS nds c ps i sl).2.length ≤ sl.length + 1 := by
  rcases findS_cases nds c ps i sl with ⟨k,hk,e,_⟩ | ⟨k,hk,e,_⟩ | e
  · rw [e]; exact ⟨k,rfl,hk,fun x hx => ⟨hsz x hx,hown x hx⟩,by dsimp only; omega⟩
  · rw [e]; exact ⟨k,rfl,hk,fun x hx => ⟨hsz x hx,hown x hx⟩,by dsimp only; omega⟩
  · rw [e]
    refine ⟨sl.length,rfl,by simp,fun x hx => ?_,by simp⟩
    rcases List.mem_append.1 hx with h | h
    · exact ⟨hsz x h,hown x h⟩
    · rw [List.mem_singleton.1 h]; exact ⟨szP_bd _,by dsimp only; omega⟩
theorem SOk.mid {ps0 : List Ps} {i : Nat} {s : St} (h : SOk ps0 i s) (nds : List Nd) (c : Cf) (hi : i < ps0.length) : (∀ x ∈ slM nds c s i,(0 ≤ x.1 ∧ x.1 ≤ 1099511627776) ∧ x.2 < ps0.length) ∧ (slM nds c s i).length ≤ i + 1 := by
  have hl := h.len
  unfold slM
  split
  · obtain ⟨f,e,hf,hx,hlen⟩ := findS_ok nds c s.ps i ps0.length s.sl h.sz h.own (by omega)
    rw [e,Int.toNat_natCast]
    refine ⟨fun x hm => ?_,by rw [List.length_set]; omega⟩
    rcases List.mem_or_eq_of_mem_set hm with h2 | rfl
    · exact hx x h2
    · exact ⟨(hx _ (getD_mem (0,0) hf)).1,by dsimp only; omega⟩
  · exact ⟨fun x hx => ⟨h.sz x hx,h.own x hx⟩,by omega⟩
theorem SOk.step {ps0 : List Ps} {i : Nat} {s : St} (h : SOk ps0 i s) (nds : List Nd) (c : Cf) (hi : i < ps0.length) (h100 : ps0.length ≤ 100) : SOk ps0 (i + 1) (stepA nds c s i) := by
  obtain ⟨h1,h2⟩ := h.mid nds c hi
  have hu := usedS_bd (slM nds c s i) fun x hx => (h1 x hx).1
  have hpk := h.pk
  rw [stepA_eq]
  refine ⟨psM_alk h.alk,?_,?_,?_,?_⟩
  · dsimp only
    split
    · intro x hx
      obtain ⟨t,ht,e⟩ := rel_mem hx
      rw [← e]
      exact (h1 t ht).1
    · exact fun x hx => (h1 x hx).1
  · dsimp only
    split
    · intro x hx
      unfold relS at hx
      obtain ⟨t,ht,rfl⟩ := List.mem_map.1 hx
      split
      · dsimp only; omega
      · exact (h1 t ht).2
    · exact fun x hx => (h1 x hx).2
  · dsimp only
    split
    · rw [relS_len]; exact h2
    · exact h2
  · dsimp only; omega
theorem sok_start (ps : List Ps) : SOk ps 0 ⟨ps,[],0⟩ := ⟨Alk.refl _,by simp,by simp,by simp,by simp⟩
def stN (nds : List Nd) (c : Cf) (ps : List Ps) (i : Nat) : St := (List.range i).foldl (stepA nds c) ⟨ps,[],0⟩
theorem stN_succ (nds : List Nd) (c : Cf) (ps : List Ps) (i : Nat) : stN nds c ps (i + 1) = stepA nds c (stN nds c ps i) i := by
  unfold stN
  rw [List.range_succ,List.foldl_append]
  rfl
theorem stN_ok (nds : List Nd) (c : Cf) (ps : List Ps) (h100 : ps.length ≤ 100) : ∀ i,i ≤ ps.length → SOk ps i (stN nds c ps i)
  | 0,_ => sok_start ps
  | i + 1,hi => by rw [stN_succ]; exact (stN_ok nds c ps h100 i (by omega)).step nds c (by omega) h100
def AsPost (w0 : World) (M : Nat) (nv : Value) (out : Int) (c : Cf) (pv : Value) (src : Rc) (s : St) (e : Ending) (w' : World) : Prop := e = .returned undef ∧ ∃ pl' sv',psl pl' = s.ps ∧ MS w0 M nv out c pl' pv src s.sl.length s.pk s.sl sv' w'
theorem POk.alk {ps0 ps : List Ps} (h : Alk ps0 ps) (hok : ∀ x ∈ ps0,POk x) : ∀ x ∈ ps,POk x := fun x hx => by
  obtain ⟨i,hi,rfl⟩ := List.mem_iff_getElem.1 hx
  obtain ⟨s,e⟩ := h.2 i
  have e1 : ps[i] = ps.getD i Ps.none := by simp [hi]
  have hi0 : i < ps0.length := by rw [← h.1]; exact hi
  have h2 := hok _ (getD_mem Ps.none hi0)
  rw [e1,e]
  exact h2
theorem nodes_alk {ps0 ps : List Ps} {n : Nat} (h : Alk ps0 ps) (hok : ∀ x ∈ ps0,∀ k ∈ x.nodes,k < n) : ∀ x ∈ ps,∀ k ∈ x.nodes,k < n := fun x hx => by
  obtain ⟨i,hi,rfl⟩ := List.mem_iff_getElem.1 hx
  obtain ⟨s,e⟩ := h.2 i
  have e1 : ps[i] = ps.getD i Ps.none := by simp [hi]
  have hi0 : i < ps0.length := by rw [← h.1]; exact hi
  have h2 := hok _ (getD_mem Ps.none hi0)
  rw [e1,e]
  exact h2
set_option maxRecDepth 4000 in
set_option maxHeartbeats 6400000 in
theorem assign_c {w0 : World} {M : Nat} {nv pv : Value} {out : Int} {c : Cf} {pl : List (Value × Value × Ps)} {src : Rc} (nds : List Nd) (w : World) (hm : MS w0 M nv out c pl pv src 0 0 [] (.slice none 0 0) w) (hg : Gr w0.heap.size w0 nv nds) (hn100 : nds.length ≤ 100) (hpl : pl.length ≤ 100) (h0 : 0 < pl.length) (hok : ∀ x ∈ psl pl,POk x) (hnd : ∀ x ∈ psl pl,∀ k ∈ x.nodes,k < nds.length) :
    Calls Tryz.prog 15 #[.pointer (some ⟨M,0,none⟩)] w (AsPost w0 M nv out c pv src (asg nds c (psl pl))) := by
  obtain ⟨n,hn⟩ : ∃ n,n = pl.length := ⟨_,rfl⟩
  obtain ⟨S,hS⟩ : ∃ S,S = stN nds c (psl pl) := ⟨_,rfl⟩
  have HS : Hid (S 0 = ⟨psl pl,[],0⟩ ∧ S n = asg nds c (psl pl) ∧ (∀ i,S (i + 1) = stepA nds c (S i) i) ∧ (∀ i,i ≤ n → SOk (psl pl) i (S i)) ∧ (psl pl).length = n) := by
    have : S 0 = ⟨psl pl,[],0⟩ ∧ S n = asg nds c (psl pl) ∧ (∀ i,S (i + 1) = stepA nds c (S i) i) ∧ (∀ i,i ≤ n → SOk (psl pl) i (S i)) ∧ (psl pl).length = n := by
      rw [hS,hn]
      exact ⟨rfl,by unfold asg; rw [psl_len]; rfl,stN_succ _ _ _,fun i hi => stN_ok _ _ _ (by rw [psl_len]; exact hpl) i (by rw [psl_len]; exact hi),psl_len _⟩
    exact this
  have hpf := hm.prs.form
  obtain ⟨g,cap,hpv⟩ : ∃ g cap,pv = .slice (some ⟨g,0,none⟩) n cap := by
    obtain ⟨g,cap,_,_,_,_,h,_⟩ := hm.prs.at h0 rfl
    exact ⟨g,cap,by rw [hn]; exact h⟩
  subst hpv
  have c7 := hm.box.cell 7 rfl
  have H0 : Hid (MS w0 M nv out c pl (.slice (some ⟨g,0,none⟩) n cap) src 0 (S 0).pk (S 0).sl (.slice none 0 0) w ∧ psl pl = (S 0).ps) := by
    have : MS w0 M nv out c pl (.slice (some ⟨g,0,none⟩) n cap) src 0 (S 0).pk (S 0).sl (.slice none 0 0) w ∧ psl pl = (S 0).ps := by rw [HS.out.1]; exact ⟨hm,rfl⟩
    exact this
  have HOK : Hid ((∀ x ∈ psl pl,POk x) ∧ (∀ x ∈ psl pl,∀ k ∈ x.nodes,k < nds.length) ∧ Gr w0.heap.size w0 nv nds ∧ nds.length ≤ 100) := ⟨hok,hnd,hg,hn100⟩
  have hn1 : n ≤ 100 := by omega
  obtain ⟨A,hA⟩ : ∃ A,A = asg nds c (psl pl) := ⟨_,rfl⟩
  have HA : Hid (S n = A) := by
    have : S n = A := by rw [hA]; exact HS.out.2.1
    exact this
  rw [← hA]
  obtain ⟨fu,al,ro,da,rm⟩ := c
  clear hm hg hn100 hpl h0 hok hnd hS hpf hn hA
  go_enter Tryz.func15,Tryz.ntmps15
  go_wp2_with fail
  go_loopw [2,3,10] (fun _ _ iv wr => ∃ (i : Nat) (pl' : List (Value × Value × Ps)) (sv' : Value),i ≤ n ∧ iv = .int .i64 i ∧ psl pl' = (S i).ps ∧ MS w0 M nv out ⟨fu,al,ro,da,rm⟩ pl' (.slice (some ⟨g,0,none⟩) n cap) src 0 (S i).pk (S i).sl sv' wr) (fun _ _ iv _ => n - (intOf iv).toNat)
  case atStart => exact ⟨0,pl,_,by omega,rfl,H0.out.2,H0.out.1⟩
  case round =>
    obtain ⟨i,pl',sv,hi,rfl,hps,hm⟩ := hrel
    clear H0 c7
    by_cases h1 : i < n
    · have hsok := HS.out.2.2.2.1 i hi
      have hnx := HS.out.2.2.1 i
      obtain ⟨s,hs⟩ : ∃ s,s = S i := ⟨_,rfl⟩
      rw [← hs] at hps hm hsok hnx
      obtain ⟨ps,sl,pk⟩ := s
      dsimp only at hps hm
      have hpln : pl'.length = n := by rw [← psl_len,hps,hsok.alk.1]; exact HS.out.2.2.2.2
      have hi' : i < pl'.length := by omega
      obtain ⟨y,hy⟩ : ∃ y,y = (psl pl').getD i Ps.none := ⟨_,rfl⟩
      have hok' : ∀ x ∈ psl pl',POk x := by rw [hps]; exact POk.alk hsok.alk HOK.out.1
      have hnd' : ∀ x ∈ psl pl',∀ k ∈ x.nodes,k < nds.length := by rw [hps]; exact nodes_alk hsok.alk HOK.out.2.1
      have hyo : POk y := hok' _ (by rw [hy]; exact getD_mem Ps.none (by rw [psl_len]; exact hi'))
      obtain ⟨s0,t0,hx0⟩ : ∃ s t,pl'[i]? = some (s,t,y) := by
        obtain ⟨⟨s,t,y'⟩,hx⟩ : ∃ x,pl'[i]? = some x := ⟨_,List.getElem?_eq_getElem hi'⟩
        have : y = y' := by rw [hy]; unfold psl; simp [hx]
        rw [this]
        exact ⟨s,t,hx⟩
      obtain ⟨g',cap',na,nc,ra,rc,hpv,_,_,hmx,_,hpc,_,_⟩ := hm.prs.at hi' hy
      simp only [Value.slice.injEq,Option.some.injEq,Addr.mk.injEq,and_true] at hpv
      obtain ⟨rfl,hq1,hq2⟩ := hpv
      clear hq1 hq2
      obtain ⟨nn,hnn⟩ : ∃ n,n = y.nodes.length := ⟨_,rfl⟩
      obtain ⟨rn,hrn⟩ : ∃ n,n = y.reads.length := ⟨_,rfl⟩
      rw [← hnn,← hrn] at hpc
      have hsz := size_c na nn nc ra rn rc y wr hyo.2.2.2
      have hmid := hsok.mid nds ⟨fu,al,ro,da,rm⟩ (i := i) (by rw [HS.out.2.2.2.2]; exact h1)
      obtain ⟨pM,hpM⟩ : ∃ p,p = psM nds ⟨fu,al,ro,da,rm⟩ ⟨ps,sl,pk⟩ i := ⟨_,rfl⟩
      obtain ⟨sM,hsM⟩ : ∃ p,p = slM nds ⟨fu,al,ro,da,rm⟩ ⟨ps,sl,pk⟩ i := ⟨_,rfl⟩
      obtain ⟨U,hU⟩ : ∃ u,u = usedS sM := ⟨_,rfl⟩
      rw [stepA_eq,← hpM,← hsM,← hU] at hnx
      rw [← hsM] at hmid
      have HSM : Hid ((∀ x ∈ sM,(0 ≤ x.1 ∧ x.1 ≤ 1099511627776) ∧ x.2 < (psl pl).length) ∧ sM.length ≤ 100 ∧ pM.length = (psl pl).length ∧ U = usedS sM ∧ True ∧ S (i + 1) = ⟨pM,if al = true then relS pM i sM else sM,max pk U⟩) := by
        have : (∀ x ∈ sM,(0 ≤ x.1 ∧ x.1 ≤ 1099511627776) ∧ x.2 < (psl pl).length) ∧ sM.length ≤ 100 ∧ pM.length = (psl pl).length ∧ U = usedS sM ∧ True ∧ S (i + 1) = ⟨pM,if al = true then relS pM i sM else sM,max pk U⟩ := ⟨hmid.1,by have := hmid.2; omega,by rw [hpM]; exact (psM_alk hsok.alk).1,hU,trivial,hnx⟩
        exact this
      obtain ⟨z,hz⟩ : ∃ z,z = szP y := ⟨_,rfl⟩
      rw [← hz] at hsz
      have hyps : ps.getD i Ps.none = y := by rw [hy,hps]
      have c7 := hm.box.cell 7 rfl
      have HM : Hid (MS w0 M nv out ⟨fu,al,ro,da,rm⟩ pl' (.slice (some ⟨g,0,none⟩) n cap) src 0 pk sl sv wr ∧ psl pl' = ps) := ⟨hm,hps⟩
      have hi0 : (0 : Int) ≤ (i : Int) := by omega
      have hi1 : (i : Int) < (n : Int) := by omega
      by_cases hp : 0 < z
      · have hd : decide (z > 0) = true := decide_eq_true hp
        obtain ⟨f,hf1,hf2,hf3,hf4⟩ := findS_ok nds ⟨fu,al,ro,da,rm⟩ ps i n sl hsok.sz (by rw [← HS.out.2.2.2.2]; exact hsok.own) (by omega)
        obtain ⟨fs,hfs⟩ : ∃ fs,fs = findS nds ⟨fu,al,ro,da,rm⟩ ps i sl := ⟨_,rfl⟩
        rw [← hfs] at hf1 hf2 hf3 hf4
        have hpMe : pM = ps.set i { y with slot := (f : Int) } := by rw [hpM]; unfold psM; dsimp only; rw [hyps,if_pos (by rw [← hz]; exact hp),← hfs,hf1]
        have hsMe : sM = fs.2.set f ((fs.2.getD f (0,0)).1,(i : Int)) := by rw [hsM]; unfold slM; dsimp only; rw [hyps,if_pos (by rw [← hz]; exact hp),← hfs,hf1,Int.toNat_natCast]
        have hfind := fun W (hb : Below wr.heap.size wr W) => find_c nds i W (hm.call hb) ((HOK.out.2.2.1.below (hm.call hb).below (Nat.le_refl _)).mono (hm.call hb).below.size) HOK.out.2.2.2 hi' hok' hnd' (fun x hx => by have := hsok.own x hx; rw [HS.out.2.2.2.2] at this; rw [hpln]; exact this) (by have := hsok.len; dsimp only at this; omega)
        rw [hps,← hfs] at hfind
        obtain ⟨fs1,sl2⟩ := fs
        dsimp only at hf1 hf2 hsMe
        subst hf1
        have HFIND : Hid _ := hfind
        have HE : Hid (pM = ps.set i { y with slot := (f : Int) } ∧ sM = sl2.set f ((sl2.getD f (0,0)).1,(i : Int)) ∧ f < sl2.length ∧ pl'[i]? = some (s0,t0,y) ∧ sl2.length ≤ 100) := by
          have : pM = ps.set i { y with slot := (f : Int) } ∧ sM = sl2.set f ((sl2.getD f (0,0)).1,(i : Int)) ∧ f < sl2.length ∧ pl'[i]? = some (s0,t0,y) ∧ sl2.length ≤ 100 := ⟨hpMe,hsMe,hf2,hx0,by have := hsok.len; dsimp only at this hf4; omega⟩
          exact this
        have HI' : Hid (i < pl'.length) := hi'
        obtain ⟨ns,rs,⟨x0,y0,x1,y1⟩,so,lo⟩ := y
        obtain ⟨a0,a1,a2,a3,a4,a5,a6,a7⟩ := hpc
        dsimp only at a2 a3 a4 a5 a6 a7
        unfold maxLen at hmx
        clear hfs hf3 hf4 hpMe hsMe hf2 hfind hyps hz hU hsM hpM hmid hnx hnn hrn hyo hx0 hy hok' hnd' hpln hs hsok hm hps hi'
        go_wp2_with fail
        refine hsz.mono ?_; rintro e w1 ⟨rfl,hb1⟩
        clear a0 a1 a2 a3 a4 a5 a6 a7 c7 hsz
        have hfd := HFIND.out w1 hb1
        go_wp2_with fail
        refine hfd.mono ?_; rintro e w2 ⟨rfl,sv2,hm2⟩
        clear hfd HFIND hb1
        obtain ⟨g',cap',na',nc',ra',rc',hpv,hgB,hgl,_,hfz,hpc,_,_⟩ := hm2.prs.at HI'.out rfl
        simp only [Value.slice.injEq,Option.some.injEq,Addr.mk.injEq,and_true] at hpv
        obtain ⟨rfl,hq1,hq2⟩ := hpv
        clear hq1 hq2
        have c6 := hpc.2.2.2.2.2.2.1
        have f6 := hfz (i * 8 + 6)
        have hm3 := hm2.setPass HE.out.2.2.2.1 (f : Int)
        dsimp only at hm3
        have h3c : (w2.setCell ⟨g,i * 8 + 6,none⟩ (.int .i64 f)).cell? ⟨g,i * 8 + 6,none⟩ = some (.int .i64 f) := by
          obtain ⟨g',cap',na',nc',ra',rc',hpv,_,_,_,_,hpc,_,_⟩ := hm3.prs.at (i := i) (by rw [List.length_set]; exact HI'.out) rfl
          simp only [Value.slice.injEq,Option.some.injEq,Addr.mk.injEq,and_true] at hpv
          obtain ⟨rfl,hq1,hq2⟩ := hpv
          clear hq1 hq2
          have h6 := hpc.2.2.2.2.2.2.1
          have hl := HI'.out
          rw [psl_set] at h6
          rw [set_at (by rw [psl_len]; exact hl)] at h6
          exact h6
        obtain ⟨plM,hplM⟩ : ∃ p,p = pl'.set i (s0,t0,(⟨ns,rs,⟨x0,y0,x1,y1⟩,f,lo⟩ : Ps)) := ⟨_,rfl⟩
        rw [← hplM] at hm3
        have H3 : Hid (psl plM = pM ∧ MS w0 M nv out ⟨fu,al,ro,da,rm⟩ plM (.slice (some ⟨g,0,none⟩) n cap) src 0 pk sl2 sv2 (w2.setCell ⟨g,i * 8 + 6,none⟩ (.int .i64 f)) ∧ (w2.setCell ⟨g,i * 8 + 6,none⟩ (.int .i64 f)).cell? ⟨g,i * 8 + 6,none⟩ = some (.int .i64 f)) := by
          have : psl plM = pM := by rw [hplM,psl_set,HM.out.2,HE.out.1]
          exact ⟨this,hm3,h3c⟩
        clear hm2 hm3 h3c hplM hgB hgl hfz hpc
        go_wp2_with fail
        obtain ⟨W3,hW3⟩ : ∃ W,W = w2.setCell ⟨g,i * 8 + 6,none⟩ (.int .i64 f) := ⟨_,rfl⟩
        rw [← hW3] at H3 ⊢
        clear hW3 c6 f6
        obtain ⟨a2',cap2,rfl,hcell⟩ := scs_cell H3.out.2.1.sr
        obtain ⟨gs,rfl,hs1,hs2,hc0,hc1,hfz⟩ := hcell f HE.out.2.2.1
        obtain ⟨m2,hm2⟩ : ∃ m,m = sl2.length := ⟨_,rfl⟩
        have HM2 : Hid (m2 = sl2.length) := hm2
        have hf0 : (0 : Int) ≤ (f : Int) := by omega
        have hf1 : (f : Int) < (m2 : Int) := by have := HE.out.2.2.1; omega
        have hm100 : m2 ≤ 100 := by have := HE.out.2.2.2.2; omega
        have c14 := H3.out.2.1.box.cell 14 rfl
        rw [← hm2] at c14 H3
        have H3c : Hid (W3.cell? ⟨gs,f * 2 + 1,none⟩ = some (.int .i64 (sl2.getD f (0,0)).2) ∧ (∀ k,W3.frozen? ⟨gs,k,none⟩ = false) ∧ gs < W3.heap.size) := ⟨hc1,hfz,hs2⟩
        have k0 := fun s : Kept W3.heap.size W3 => s.at H3.out.2.2
        have k1 := fun s : Kept W3.heap.size W3 => s.at c14
        clear hcell hc0 hc1 hfz c14 hm2
        refine wp_region_kept_last W3.heap.size 11 _ rfl rfl (by kernel_rfl) (by kernel_rfl) ?_
        simp only [List.take_succ_cons,List.take_zero]
        repeat (go_big_quiet_step (fail))
        refine wpQuiet_nil ?_
        intro s
        have q1 := (s.below.cell H3c.out.2.2).trans H3c.out.1
        have q2 := (s.below.frozen H3c.out.2.2 (p := ⟨gs,f * 2 + 1,none⟩)).trans (H3c.out.2.1 (f * 2 + 1))
        refine ⟨steps_plain rfl (gives_mono (R := fun v w' => v = undef ∧ w' = s.w.setCell ⟨gs,f * 2 + 1,none⟩ (.int .i64 i)) ?_ ?_)⟩
        · simp [gives,go_sem,q1,q2]
        · rintro _ _ ⟨rfl,rfl⟩
          simp only [Act.put]
          have hmid := (H3.out.2.1.call s.below).setSlot (i := f) HE.out.2.2.1 (i : Int)
          rw [← HE.out.2.1] at hmid
          obtain ⟨svM,hsvM⟩ : ∃ v,v = Value.slice (some ⟨gs,0,none⟩) m2 cap2 := ⟨_,rfl⟩
          rw [← hsvM] at hmid
          have HMID : Hid (psl plM = pM ∧ MS w0 M nv out ⟨fu,al,ro,da,rm⟩ plM (.slice (some ⟨g,0,none⟩) n cap) src 0 pk sM svM (s.w.setCell ⟨gs,f * 2 + 1,none⟩ (.int .i64 i))) := ⟨H3.out.1,hmid⟩
          clear k0 k1 q1 q2 hmid hsvM H3 H3c HE HM
          generalize s.w.setCell ⟨gs,f * 2 + 1,none⟩ (.int .i64 i) = W6 at *
          clear s
          have c13 := HMID.out.2.box.cell 13 rfl
          have HUS : Hid (∀ s : Kept W6.heap.size W6,Calls Tryz.prog 33 #[.pointer (some ⟨M,0,none⟩)] s.w (PPost s.w (.int .i64 U))) := fun s => by
            rw [HSM.out.2.2.2.1]
            exact used_c s.w (HMID.out.2.call s.below) HSM.out.2.1 (fun x hx => (HSM.out.1 x hx).1)
          have k13 := fun s : Kept W6.heap.size W6 => s.at c13
          clear c13
          go_wp2_with fail
          refine wp_region_kept_last W6.heap.size 12 _ rfl rfl (by kernel_rfl) (by kernel_rfl) ?_
          simp only [List.take_succ_cons,List.take_zero]
          repeat (go_big_quiet_step (first | (go_at_call 33; with_reducible exact Calls.kept _ (Nat.le_refl _) (HUS.out _))))
          refine wpQuiet_nil ?_
          intro s
          have H7 : Hid (MS w0 M nv out ⟨fu,al,ro,da,rm⟩ plM (.slice (some ⟨g,0,none⟩) n cap) src 0 pk sM svM s.w) := HMID.out.2.call s.below
          have c13 := H7.out.box.cell 13 rfl
          have f13 := H7.out.box.frozen 13
          refine ⟨steps_plain rfl (gives_mono (R := fun v w' => v = undef ∧ w' = s.w.setCell ⟨M,13,none⟩ (.int .i64 (max pk U))) ?_ ?_)⟩
          · simp [gives,go_sem,c13,f13]
          · rintro _ _ ⟨rfl,rfl⟩
            have H8 : Hid (MS w0 M nv out ⟨fu,al,ro,da,rm⟩ plM (.slice (some ⟨g,0,none⟩) n cap) src 0 (max pk U) sM svM (s.w.setCell ⟨M,13,none⟩ (.int .i64 (max pk U)))) := H7.out.put 13 _ rfl
            clear k13 c13 f13 H7 HUS
            generalize s.w.setCell ⟨M,13,none⟩ (.int .i64 (max pk U)) = w8 at *
            clear s
            have c3 := H8.out.box.cell 3 rfl
            cases al with
            | false =>
              have HN1 : Hid ((S (i + 1)).ps = pM ∧ (S (i + 1)).sl = sM ∧ (S (i + 1)).pk = max pk U) := by
                have : (S (i + 1)).ps = pM ∧ (S (i + 1)).sl = sM ∧ (S (i + 1)).pk = max pk U := by rw [HSM.out.2.2.2.2.2]; exact ⟨rfl,rfl,rfl⟩
                exact this
              go_wp2_with fail
              go_roundw
              case rel => exact ⟨i + 1,plM,svM,by omega,by go_num,by rw [HN1.out.1]; exact HMID.out.1,by rw [HN1.out.2.1,HN1.out.2.2]; exact H8.out⟩
              case measure => simp [intOf]; omega
            | true =>
              have HN1 : Hid ((S (i + 1)).ps = pM ∧ (S (i + 1)).sl = relS pM i sM ∧ (S (i + 1)).pk = max pk U) := by
                have : (S (i + 1)).ps = pM ∧ (S (i + 1)).sl = relS pM i sM ∧ (S (i + 1)).pk = max pk U := by rw [HSM.out.2.2.2.2.2]; exact ⟨rfl,rfl,rfl⟩
                exact this
              have hrl := release_c i w8 H8.out HSM.out.2.1 (fun x hx => by
                have h2 := (HSM.out.1 x hx).2
                have h3 : plM.length = pM.length := by rw [← HMID.out.1,psl_len]
                have h4 := HSM.out.2.2.1
                omega)
              rw [HMID.out.1] at hrl
              go_wp2_with fail
              refine hrl.mono ?_; rintro e w9 ⟨rfl,hm9⟩
              have H9 : Hid _ := hm9
              clear hrl hm9 c3
              go_wp2_with fail
              go_roundw
              case rel => exact ⟨i + 1,plM,svM,by omega,by go_num,by rw [HN1.out.1]; exact HMID.out.1,by rw [HN1.out.2.1,HN1.out.2.2]; exact H9.out⟩
              case measure => simp [intOf]; omega
      · have hd : decide (z > 0) = false := decide_eq_false hp
        have hpMe : pM = ps := by rw [hpM]; unfold psM; dsimp only; rw [hyps,if_neg (by rw [← hz]; exact hp)]
        have hsMe : sM = sl := by rw [hsM]; unfold slM; dsimp only; rw [hyps,if_neg (by rw [← hz]; exact hp)]
        subst hpMe hsMe
        obtain ⟨plM,hplM⟩ : ∃ p,p = pl' := ⟨_,rfl⟩
        subst hplM
        obtain ⟨svM,hsvM⟩ : ∃ p,p = sv := ⟨_,rfl⟩
        subst hsvM
        obtain ⟨ns,rs,⟨x0,y0,x1,y1⟩,so,lo⟩ := y
        obtain ⟨a0,a1,a2,a3,a4,a5,a6,a7⟩ := hpc
        dsimp only at a2 a3 a4 a5 a6 a7
        unfold maxLen at hmx
        clear hyps hz hU hsM hpM hmid hnx hnn hrn hyo hx0 hy hok' hnd' hpln hs hsok hm hps hi'
        go_wp2_with fail
        refine hsz.mono ?_; rintro e w1 ⟨rfl,hb1⟩
        have HMID : Hid (psl plM = pM ∧ MS w0 M nv out ⟨fu,al,ro,da,rm⟩ plM (.slice (some ⟨g,0,none⟩) n cap) src 0 pk sM svM w1) := ⟨HM.out.2,HM.out.1.call hb1⟩
        clear a0 a1 a2 a3 a4 a5 a6 a7 c7 hsz HM hb1
        have c13 := HMID.out.2.box.cell 13 rfl
        have HUS : Hid (∀ s : Kept w1.heap.size w1,Calls Tryz.prog 33 #[.pointer (some ⟨M,0,none⟩)] s.w (PPost s.w (.int .i64 U))) := fun s => by
          rw [HSM.out.2.2.2.1]
          exact used_c s.w (HMID.out.2.call s.below) HSM.out.2.1 (fun x hx => (HSM.out.1 x hx).1)
        have k13 := fun s : Kept w1.heap.size w1 => s.at c13
        clear c13
        go_wp2_with fail
        refine wp_region_kept_last w1.heap.size 12 _ rfl rfl (by kernel_rfl) (by kernel_rfl) ?_
        simp only [List.take_succ_cons,List.take_zero]
        repeat (go_big_quiet_step (first | (go_at_call 33; with_reducible exact Calls.kept _ (Nat.le_refl _) (HUS.out _))))
        refine wpQuiet_nil ?_
        intro s
        have H7 : Hid (MS w0 M nv out ⟨fu,al,ro,da,rm⟩ plM (.slice (some ⟨g,0,none⟩) n cap) src 0 pk sM svM s.w) := HMID.out.2.call s.below
        have c13 := H7.out.box.cell 13 rfl
        have f13 := H7.out.box.frozen 13
        refine ⟨steps_plain rfl (gives_mono (R := fun v w' => v = undef ∧ w' = s.w.setCell ⟨M,13,none⟩ (.int .i64 (max pk U))) ?_ ?_)⟩
        · simp [gives,go_sem,c13,f13]
        · rintro _ _ ⟨rfl,rfl⟩
          have H8 : Hid (MS w0 M nv out ⟨fu,al,ro,da,rm⟩ plM (.slice (some ⟨g,0,none⟩) n cap) src 0 (max pk U) sM svM (s.w.setCell ⟨M,13,none⟩ (.int .i64 (max pk U)))) := H7.out.put 13 _ rfl
          clear k13 c13 f13 H7 HUS
          generalize s.w.setCell ⟨M,13,none⟩ (.int .i64 (max pk U)) = w8 at *
          clear s
          have c3 := H8.out.box.cell 3 rfl
          cases al with
          | false =>
            have HN1 : Hid ((S (i + 1)).ps = pM ∧ (S (i + 1)).sl = sM ∧ (S (i + 1)).pk = max pk U) := by
              have : (S (i + 1)).ps = pM ∧ (S (i + 1)).sl = sM ∧ (S (i + 1)).pk = max pk U := by rw [HSM.out.2.2.2.2.2]; exact ⟨rfl,rfl,rfl⟩
              exact this
            go_wp2_with fail
            go_roundw
            case rel => exact ⟨i + 1,plM,svM,by omega,by go_num,by rw [HN1.out.1]; exact HMID.out.1,by rw [HN1.out.2.1,HN1.out.2.2]; exact H8.out⟩
            case measure => simp [intOf]; omega
          | true =>
            have HN1 : Hid ((S (i + 1)).ps = pM ∧ (S (i + 1)).sl = relS pM i sM ∧ (S (i + 1)).pk = max pk U) := by
              have : (S (i + 1)).ps = pM ∧ (S (i + 1)).sl = relS pM i sM ∧ (S (i + 1)).pk = max pk U := by rw [HSM.out.2.2.2.2.2]; exact ⟨rfl,rfl,rfl⟩
              exact this
            have hrl := release_c i w8 H8.out HSM.out.2.1 (fun x hx => by
              have h2 := (HSM.out.1 x hx).2
              have h3 : plM.length = pM.length := by rw [← HMID.out.1,psl_len]
              have h4 := HSM.out.2.2.1
              omega)
            rw [HMID.out.1] at hrl
            go_wp2_with fail
            refine hrl.mono ?_; rintro e w9 ⟨rfl,hm9⟩
            have H9 : Hid _ := hm9
            clear hrl hm9 c3
            go_wp2_with fail
            go_roundw
            case rel => exact ⟨i + 1,plM,svM,by omega,by go_num,by rw [HN1.out.1]; exact HMID.out.1,by rw [HN1.out.2.1,HN1.out.2.2]; exact H9.out⟩
            case measure => simp [intOf]; omega
    · have ei : i = n := by omega
      subst ei
      have hslf : ∃ a c',sv = .slice a (S i).sl.length c' := by obtain ⟨a,c',h,_⟩ := scs_cell hm.sr; exact ⟨a,c',h⟩
      obtain ⟨a,c',rfl⟩ := hslf
      rw [HA.out] at hps hm
      obtain ⟨m,hm'⟩ : ∃ m,m = A.sl.length := ⟨_,rfl⟩
      have c14 := hm.box.cell 14 rfl
      have c12 := hm.box.cell 12 rfl
      have f12 := hm.box.frozen 12
      have HMF := hm.put 12 (.int .i64 A.sl.length) (sn' := A.sl.length) (c' := ⟨fu,al,ro,da,rm⟩) (src' := src) (pk' := A.pk) rfl
      rw [← hm'] at c14 HMF
      have HF : Hid (psl pl' = A.ps ∧ MS w0 M nv out ⟨fu,al,ro,da,rm⟩ pl' (.slice (some ⟨g,0,none⟩) i cap) src A.sl.length A.pk A.sl (.slice a m c') (wr.setCell ⟨M,12,none⟩ (.int .i64 m))) := by
        refine ⟨hps,?_⟩
        rw [← hm']
        exact HMF
      clear hm HMF hps hm'
      go_wp2_with fail
      first | go_end0 | refine bodyPost_ret (results_none rfl _ _ _) rfl ?_
      exact ⟨rfl,_,_,HF.out.1,HF.out.2⟩
end Go.Proofs.YtaoamkbcegadcaaGreatDoor
