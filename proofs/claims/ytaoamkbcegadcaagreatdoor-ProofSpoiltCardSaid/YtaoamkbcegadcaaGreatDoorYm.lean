/- Texts joined: XYm. -/
import Derived.Test.YtaoamkbcegadcaaGreatDoorYl
set_option maxRecDepth 4000
/- Layer 19: passes are laid, with their boxes. (Printed by mk_ym.py.) -/
namespace Go.Proofs.YtaoamkbcegadcaaGreatDoor
open Go.RowKit Go.Bx Go.Od Go.Hp
attribute [local go_sem ↓] Go.wp_at_zero Go.wp_at_succ
set_option linter.unusedVariables false

def QT (vals : List Value) (js : List Nat) (R : Nat → Value → World → Prop) (i : Nat) (v : Value) (W : World) : Prop := (i ∈ js ∧ R i v W) ∨ (i ∉ js ∧ v = vals.getD i undef)
theorem QT.val {vals : List Value} {js : List Nat} {R : Nat → Value → World → Prop} {i : Nat} {v : Value} {W : World} (h : QT vals js R i v W) (hi : i ∉ js) : v = vals.getD i undef := h.elim (fun h => absurd h.1 hi) fun h => h.2
theorem QT.spec {vals : List Value} {js : List Nat} {R : Nat → Value → World → Prop} {i : Nat} {v : Value} {W : World} (h : QT vals js R i v W) (hi : i ∈ js) : R i v W := h.elim (fun h => h.2) fun h => absurd hi h.1
theorem QT.stab {vals : List Value} {js : List Nat} {R : Nat → Value → World → Prop} (hR : ∀ i v W W',R i v W → Below W.heap.size W W' → R i v W') (i : Nat) (v : Value) (W W' : World) (h : QT vals js R i v W) (hb : Below W.heap.size W W') : QT vals js R i v W' := h.imp (fun ⟨h1,h2⟩ => ⟨h1,hR i v W W' h2 hb⟩) id

theorem GoodN.two {nds : List Nd} {out : Int} (hg : GoodN nds out) {c : Rc} (he : c.emp = false) : rcs (rl nds.length (allN nds c out).1) ≠ cl4 ⟨0,0,0,0⟩ := fun h => by
  have hc := covers_out nds c out.toNat
  have ho := hg.outs
  rw [show ((out.toNat : Nat) : Int) = out by omega] at hc
  have hne := hc.nemp he
  have hl := congrArg List.length h
  have hl1 : (rcs (rl nds.length (allN nds c out).1)).length = 4 * nds.length := by rw [rcs_len]; simp [rl,Nat.mul_comm]
  rw [hl1] at hl
  have hl2 : nds.length = 1 := by simp [cl4] at hl; omega
  have ho0 : out.toNat = 0 := by omega
  rw [ho0] at hne
  generalize (allN nds c out).1 = f at *
  rw [hl2] at h
  obtain ⟨r,hr⟩ : ∃ r,r = f 0 := ⟨_,rfl⟩
  simp [rcs,rl,← hr] at h
  rw [← hr] at hne
  rw [nemp_iff] at hne
  omega
theorem boxTwo {W : World} {b : Nat} {cs ds : List Value} (h : Box W b cs) (k : Box W b ds) : cs = ds := by
  obtain ⟨t,h⟩ := h
  obtain ⟨u,k⟩ := k
  rw [h] at k
  simp only [Option.some.injEq,Obj.cells.injEq] at k
  have := congrArg Array.toList k.1
  simpa using this
def BR1 (n1 : Nat) (G : List (List Nat)) (n : Nat) (i : Nat) (v : Value) (W : World) : Prop := ∃ a c vs,v = .slice a n c ∧ GU n1 G (.slice a n c) vs W
theorem BR1.stab {n1 : Nat} {G : List (List Nat)} {n : Nat} (i : Nat) (v : Value) (W W' : World) (h : BR1 n1 G n i v W) (hb : Below W.heap.size W W') : BR1 n1 G n i v W' := by
  obtain ⟨a,c,vs,h1,h2⟩ := h
  exact ⟨a,c,vs,h1,h2.call hb⟩
def BR2 (n1 m : Nat) (f : Nat → Rc) (t : Rc) (i : Nat) (v : Value) (W : World) : Prop := match i with
  | 5 => ∃ O,n1 ≤ O ∧ v = .tuple #[.slice (some ⟨O,0,none⟩) m m,rv t] ∧ Box W O (rcs (rl m f))
  | 6 => ∃ O,n1 ≤ O ∧ v = .tuple #[.slice (some ⟨O,0,none⟩) m m,rv t] ∧ Box W O (rcs (rl m f))
  | 7 => ∃ O,n1 ≤ O ∧ v = .slice (some ⟨O,0,none⟩) m m ∧ Box W O (rcs (rl m f))
  | 9 => ∃ q,n1 ≤ q ∧ v = .pointer (some ⟨q,0,none⟩) ∧ Box W q (cl4 ⟨0,0,0,0⟩)
  | 10 => ∃ O,n1 ≤ O ∧ v = .slice (some ⟨O,0,none⟩) m m ∧ Box W O (rcs (rl m f))
  | _ => True
theorem BR2.stab {n1 m : Nat} {f : Nat → Rc} {t : Rc} (i : Nat) (v : Value) (W W' : World) (h : BR2 n1 m f t i v W) (hb : Below W.heap.size W W') : BR2 n1 m f t i v W' := by
  unfold BR2 at h ⊢
  split at h
  · obtain ⟨O,h1,h2,h3⟩ := h; exact ⟨O,h1,h2,h3.call hb⟩
  · obtain ⟨O,h1,h2,h3⟩ := h; exact ⟨O,h1,h2,h3.call hb⟩
  · obtain ⟨O,h1,h2,h3⟩ := h; exact ⟨O,h1,h2,h3.call hb⟩
  · obtain ⟨O,h1,h2,h3⟩ := h; exact ⟨O,h1,h2,h3.call hb⟩
  · obtain ⟨O,h1,h2,h3⟩ := h; exact ⟨O,h1,h2,h3.call hb⟩
  · trivial
def BR3 (n1 n : Nat) (R : List (List Int)) (us : List Int) (i : Nat) (v : Value) (W : World) : Prop := match i with
  | 5 => ∃ a c vs,v = .slice a n c ∧ GI n1 R (.slice a n c) vs W
  | 12 => ∃ a c vs,v = .slice a n c ∧ GI n1 R (.slice a n c) vs W
  | 11 => ∃ O,n1 ≤ O ∧ v = .slice (some ⟨O,0,none⟩) n n ∧ Box W O (us.map (Value.int .i64))
  | _ => True
theorem BR3.stab {n1 n : Nat} {R : List (List Int)} {us : List Int} (i : Nat) (v : Value) (W W' : World) (h : BR3 n1 n R us i v W) (hb : Below W.heap.size W W') : BR3 n1 n R us i v W' := by
  unfold BR3 at h ⊢
  split at h
  · obtain ⟨a,c,vs,h1,h2⟩ := h; exact ⟨a,c,vs,h1,h2.call hb⟩
  · obtain ⟨a,c,vs,h1,h2⟩ := h; exact ⟨a,c,vs,h1,h2.call hb⟩
  · obtain ⟨O,h1,h2,h3⟩ := h; exact ⟨O,h1,h2,h3.call hb⟩
  · trivial
set_option maxRecDepth 10000 in
set_option maxHeartbeats 6400000 in
theorem boxes_c {w0 : World} {M : Nat} {nv : Value} {out : Int} {c : Cf} (nds : List Nd) (want : Rc) (w : World) (hm : MS w0 M nv out c [] (.slice none 0 0) Rc.zero 0 0 [] (.slice none 0 0) w) (hg : Gr w0.heap.size w0 nv nds) (hgd : SGood nds out) (hgn : GoodN nds out) (hw : RcP want) (hwe : want.emp = false) :
    Calls Tryz.prog 14 #[.pointer (some ⟨M,0,none⟩),rv want] w (BxPost w0 M nv out c (pss nds out c want) (srcO nds out c want)) := by
  obtain ⟨ga,gc,hnv⟩ := hg.isSl
  obtain ⟨m,hmn⟩ : ∃ m,m = nds.length := ⟨_,rfl⟩
  obtain ⟨G,hG⟩ : ∃ G,G = grp nds out c.fuse := ⟨_,rfl⟩
  obtain ⟨n,hn⟩ : ∃ n,n = G.length := ⟨_,rfl⟩
  have HN : Hid (n = G.length) := hn
  have HG : Hid (∀ W,MS w0 M nv out c [] (.slice none 0 0) Rc.zero 0 0 [] (.slice none 0 0) W → Gr w0.heap.size W nv nds ∧ w0.heap.size ≤ W.heap.size) := fun W h => ⟨hg.below h.below (Nat.le_refl _),h.below.size⟩
  have HGS : Hid (∀ W,MS w0 M nv out c [] (.slice none 0 0) Rc.zero 0 0 [] (.slice none 0 0) W → Calls Tryz.prog 25 #[.agg #[nv,.int .i64 out],.bool c.fuse] W (GsPost W G)) := fun W h => by
    rw [hG]
    exact fgroups_c w0.heap.size nv nds out c.fuse W hgd.toGood (HG.out W h).1 (HG.out W h).2
  obtain ⟨st,hst⟩ : ∃ st,st = allN nds want out := ⟨_,rfl⟩
  have HTW : Hid (rcs (rl m st.1) ≠ cl4 ⟨0,0,0,0⟩) := by
    have : rcs (rl m st.1) ≠ cl4 ⟨0,0,0,0⟩ := by rw [hmn,hst]; exact hgn.two hwe
    exact this
  have HNA : Hid (∀ W,MS w0 M nv out c [] (.slice none 0 0) Rc.zero 0 0 [] (.slice none 0 0) W → Calls Tryz.prog 26 #[.agg #[nv,.int .i64 out],rv want] W (NaPost W m st)) := fun W h => by
    rw [hmn,hst]
    exact all14_c w0.heap.size nv nds out want W hgn (HG.out W h).1 (HG.out W h).2 hw
  have HSP : Hid (∀ W lv,MS w0 M nv out c [] (.slice none 0 0) Rc.zero 0 0 [] (.slice none 0 0) W → LL W.heap.size W lv (gL nds out c.fuse) → Calls Tryz.prog 27 #[.agg #[nv,.int .i64 out],lv] W (RdPost W (rL nds out c.fuse)) ∧ Calls Tryz.prog 28 #[.agg #[nv,.int .i64 out],lv] W (UnPost W ((List.range (gL nds out c.fuse).length).map (uN nds out c.fuse)))) := fun W lv h hll => ⟨readsG_c W.heap.size nv lv nds out _ W hgd.ok ((HG.out W h).1.mono (HG.out W h).2) hll (Nat.le_refl _),until_c W.heap.size nv lv nds out _ W hgd.ok ((HG.out W h).1.mono (HG.out W h).2) hll (Nat.le_refl _)⟩
  obtain ⟨x0,y0,x1,y1⟩ := want
  have hb1 := below_new w (.cells (cs4 x0 y0 x1 y1) 26)
  obtain ⟨z,hz⟩ : ∃ z,z = w.heap.size := ⟨_,rfl⟩
  obtain ⟨n1,hn1⟩ : ∃ z,z = w.heap.size := ⟨_,rfl⟩
  have H1' : Hid (MS w0 M nv out c [] (.slice none 0 0) Rc.zero 0 0 [] (.slice none 0 0) (w.alloc (.cells (cs4 x0 y0 x1 y1) 26)) ∧ Box (w.alloc (.cells (cs4 x0 y0 x1 y1) 26)) z (cl4 ⟨x0,y0,x1,y1⟩) ∧ n1 ≤ (w.alloc (.cells (cs4 x0 y0 x1 y1) 26)).heap.size) := ⟨hm.call hb1,by rw [hz]; exact Box.new w _ _,by rw [hn1]; exact hb1.size⟩
  have HMn : Hid (M < n1) := by
    have : M < n1 := by rw [hn1]; exact hm.lt
    exact this
  rw [← hmn] at hnv
  subst hnv
  obtain ⟨fu,al,ro,da,rm⟩ := c
  dsimp only at HGS HSP hG
  have HG0 : Hid (G = grp nds out fu) := hG
  have HST : Hid (st = allN nds ⟨x0,y0,x1,y1⟩ out ∧ m = nds.length) := ⟨hst,hmn⟩
  clear hm hg hw hb1 hn1 hG hn hst hmn
  go_enter Tryz.func14,Tryz.ntmps14
  go_wp2_with fail
  rename_i K hK
  obtain ⟨W1,hW1⟩ : ∃ W,W = w.alloc (.cells (cs4 x0 y0 x1 y1) 26) := ⟨_,rfl⟩
  have H1 := H1'
  rw [← hW1] at H1 ⊢
  rw [← hz]
  clear hW1 H1' hz
  refine wp_region_mono (QT [.pointer (some ⟨M,0,none⟩),.pointer (some ⟨M,0,none⟩),.pointer (some ⟨M,0,none⟩),.agg #[.slice ga m gc,.int .i64 out],.pointer (some ⟨M,0,none⟩),.pointer (some ⟨M,0,none⟩),.pointer (some ⟨M,2,none⟩),.pointer (some ⟨M,2,none⟩),.bool fu,undef] [9] (BR1 n1 G n)) 10 _ rfl rfl (by kernel_rfl) (by kernel_rfl) (QT.stab BR1.stab) ?hop ?hlast
  case hop =>
    refine Each.get (n := 10) ⟨⟨⟨⟨⟨⟨⟨⟨⟨⟨trivial,?h0⟩,?h1⟩,?h2⟩,?h3⟩,?h4⟩,?h5⟩,?h6⟩,?h7⟩,?h8⟩,?h9⟩
    case h0 =>
      refine OpOk.plain (by kernel_rfl) _ rfl rfl fun vs ev W hf hb hd => ?_
      have e0 : ev (.tmp 0) = .pointer (some ⟨M,0,none⟩) := hf.off 0 rfl
      clear hK
      exact gives_mono (R := fun v w' => v = .pointer (some ⟨M,0,none⟩) ∧ w' = W) (by simp [gives,go_sem,e0]) fun _ _ ⟨h1,h2⟩ => by subst h2; exact ⟨.inr ⟨by decide,h1⟩,Below.refl _ _⟩
    case h1 =>
      refine OpOk.plain (by kernel_rfl) _ rfl rfl fun vs ev W hf hb hd => ?_
      have e0 : ev (.tmp 15) = .pointer (some ⟨M,0,none⟩) := (hf.of 0 _ 15 rfl rfl rfl (of_decide_eq_true rfl)).trans ((hd 0 (by kernel_rfl)).val (by decide))
      clear hK
      exact gives_mono (R := fun v w' => v = .pointer (some ⟨M,0,none⟩) ∧ w' = W) (by simp [gives,go_sem,e0]) fun _ _ ⟨h1,h2⟩ => by subst h2; exact ⟨.inr ⟨by decide,h1⟩,Below.refl _ _⟩
    case h2 =>
      refine OpOk.plain (by kernel_rfl) _ rfl rfl fun vs ev W hf hb hd => ?_
      have e0 : ev (.tmp 16) = .pointer (some ⟨M,0,none⟩) := (hf.of 1 _ 16 rfl rfl rfl (of_decide_eq_true rfl)).trans ((hd 1 (by kernel_rfl)).val (by decide))
      clear hK
      exact gives_mono (R := fun v w' => v = .pointer (some ⟨M,0,none⟩) ∧ w' = W) (by simp [gives,go_sem,e0]) fun _ _ ⟨h1,h2⟩ => by subst h2; exact ⟨.inr ⟨by decide,h1⟩,Below.refl _ _⟩
    case h3 =>
      refine OpOk.plain (by kernel_rfl) _ rfl rfl fun vs ev W hf hb hd => ?_
      have e0 : ev (.tmp 17) = .pointer (some ⟨M,0,none⟩) := (hf.of 2 _ 17 rfl rfl rfl (of_decide_eq_true rfl)).trans ((hd 2 (by kernel_rfl)).val (by decide))
      have d0 := (H1.out.1.call hb).box.cell 0 rfl
      have d1 := (H1.out.1.call hb).box.cell 1 rfl
      clear hK
      exact gives_mono (R := fun v w' => v = .agg #[.slice ga m gc,.int .i64 out] ∧ w' = W) (by simp [gives,go_sem,e0,d0,d1]) fun _ _ ⟨h1,h2⟩ => by subst h2; exact ⟨.inr ⟨by decide,h1⟩,Below.refl _ _⟩
    case h4 =>
      refine OpOk.plain (by kernel_rfl) _ rfl rfl fun vs ev W hf hb hd => ?_
      have e0 : ev (.tmp 0) = .pointer (some ⟨M,0,none⟩) := hf.off 0 rfl
      clear hK
      exact gives_mono (R := fun v w' => v = .pointer (some ⟨M,0,none⟩) ∧ w' = W) (by simp [gives,go_sem,e0]) fun _ _ ⟨h1,h2⟩ => by subst h2; exact ⟨.inr ⟨by decide,h1⟩,Below.refl _ _⟩
    case h5 =>
      refine OpOk.plain (by kernel_rfl) _ rfl rfl fun vs ev W hf hb hd => ?_
      have e0 : ev (.tmp 19) = .pointer (some ⟨M,0,none⟩) := (hf.of 4 _ 19 rfl rfl rfl (of_decide_eq_true rfl)).trans ((hd 4 (by kernel_rfl)).val (by decide))
      clear hK
      exact gives_mono (R := fun v w' => v = .pointer (some ⟨M,0,none⟩) ∧ w' = W) (by simp [gives,go_sem,e0]) fun _ _ ⟨h1,h2⟩ => by subst h2; exact ⟨.inr ⟨by decide,h1⟩,Below.refl _ _⟩
    case h6 =>
      refine OpOk.plain (by kernel_rfl) _ rfl rfl fun vs ev W hf hb hd => ?_
      have e0 : ev (.tmp 20) = .pointer (some ⟨M,0,none⟩) := (hf.of 5 _ 20 rfl rfl rfl (of_decide_eq_true rfl)).trans ((hd 5 (by kernel_rfl)).val (by decide))
      clear hK
      exact gives_mono (R := fun v w' => v = .pointer (some ⟨M,2,none⟩) ∧ w' = W) (by simp [gives,go_sem,e0]) fun _ _ ⟨h1,h2⟩ => by subst h2; exact ⟨.inr ⟨by decide,h1⟩,Below.refl _ _⟩
    case h7 =>
      refine OpOk.plain (by kernel_rfl) _ rfl rfl fun vs ev W hf hb hd => ?_
      have e0 : ev (.tmp 21) = .pointer (some ⟨M,2,none⟩) := (hf.of 6 _ 21 rfl rfl rfl (of_decide_eq_true rfl)).trans ((hd 6 (by kernel_rfl)).val (by decide))
      clear hK
      exact gives_mono (R := fun v w' => v = .pointer (some ⟨M,2,none⟩) ∧ w' = W) (by simp [gives,go_sem,e0]) fun _ _ ⟨h1,h2⟩ => by subst h2; exact ⟨.inr ⟨by decide,h1⟩,Below.refl _ _⟩
    case h8 =>
      refine OpOk.plain (by kernel_rfl) _ rfl rfl fun vs ev W hf hb hd => ?_
      have e0 : ev (.tmp 22) = .pointer (some ⟨M,2,none⟩) := (hf.of 7 _ 22 rfl rfl rfl (of_decide_eq_true rfl)).trans ((hd 7 (by kernel_rfl)).val (by decide))
      have d0 := (H1.out.1.call hb).box.cell 2 rfl
      clear hK
      exact gives_mono (R := fun v w' => v = .bool fu ∧ w' = W) (by simp [gives,go_sem,e0,d0]) fun _ _ ⟨h1,h2⟩ => by subst h2; exact ⟨.inr ⟨by decide,h1⟩,Below.refl _ _⟩
    case h9 =>
      refine OpOk.plain (by kernel_rfl) _ rfl rfl fun vs ev W hf hb hd => ?_
      have e0 : ev (.tmp 18) = .agg #[.slice ga m gc,.int .i64 out] := (hf.of 3 _ 18 rfl rfl rfl (of_decide_eq_true rfl)).trans ((hd 3 (by kernel_rfl)).val (by decide))
      have e1 : ev (.tmp 23) = .bool fu := (hf.of 8 _ 23 rfl rfl rfl (of_decide_eq_true rfl)).trans ((hd 8 (by kernel_rfl)).val (by decide))
      refine gives_mono (R := fun v w' => ∃ e,e = Ending.returned v ∧ GsPost W G e w') ?_ ?_
      · have hc := HGS.out W (H1.out.1.call hb)
        clear hK
        have ef := hf.func 25
        simp [gives,execOp,resolve,invoke,e0,e1,ef,go_sem]
        exact hc.mono fun e w' h => by
          obtain ⟨a,c,vs,he,h2,h3⟩ := h
          exact ⟨_,he,a,c,vs,rfl,h2,h3⟩
      · rintro v w' ⟨e,he,a,c,vs,he2,h2,h3⟩
        rw [he] at he2
        cases he2
        exact ⟨.inl ⟨by decide,a,c,vs,by rw [HN.out],HN.out ▸ h2.mono (Nat.le_trans H1.out.2.2 hb.size)⟩,h3⟩
  case hlast =>
  intro vs W hb hT
  obtain ⟨la,lc,lvs,s1,s2⟩ := (hT 9 (by decide)).spec (by decide)
  refine last_plain (by kernel_rfl) rfl fun F ev hF hf => ?_
  have e1 := (hf.of 9 _ 24 rfl rfl rfl (of_decide_eq_true rfl)).trans s1
  have H2 : Hid (MS w0 M (.slice ga m gc) out ⟨fu,al,ro,da,rm⟩ [] (.slice none 0 0) Rc.zero 0 0 [] (.slice none 0 0) W ∧ Box W z (cl4 ⟨x0,y0,x1,y1⟩) ∧ n1 ≤ W.heap.size ∧ GU n1 G (.slice la n lc) lvs W) := ⟨H1.out.1.call hb,H1.out.2.1.call hb,Nat.le_trans H1.out.2.2 hb.size,s2⟩
  refine gives_mono (R := fun v w' => v = .slice la n lc ∧ w' = W) (by simp [gives,go_sem,e1]) ?_
  rintro _ _ ⟨rfl,rfl⟩
  subst hF
  simp [fr,Act.put,s1]
  generalize vs 0 = u0 at *
  generalize vs 1 = u1 at *
  generalize vs 2 = u2 at *
  generalize vs 3 = u3 at *
  generalize vs 4 = u4 at *
  generalize vs 5 = u5 at *
  generalize vs 6 = u6 at *
  generalize vs 7 = u7 at *
  generalize vs 8 = u8 at *
  generalize vs 9 = u9 at *
  clear hT hf s1 e1
  refine hK _ _ ?_
  clear hK s2 hb H1
  try clear W1
  go_wp2_with fail
  rename_i K hK
  obtain ⟨f,t⟩ := st
  rename World => W2
  obtain ⟨n2,hn2⟩ : ∃ n,n = W2.heap.size := ⟨_,rfl⟩
  have HN2 : Hid (n2 ≤ W2.heap.size) := Nat.le_of_eq hn2
  have HN2b : Hid (W2.heap.size ≤ n2) := Nat.le_of_eq hn2.symm
  clear hn2
  refine wp_region_mono (QT [.pointer (some ⟨M,0,none⟩),.pointer (some ⟨M,0,none⟩),.pointer (some ⟨M,0,none⟩),.agg #[.slice ga m gc,.int .i64 out],(rv ⟨x0,y0,x1,y1⟩),undef,undef,undef,(rv t)] [5,6,7,9,10] (BR2 n2 m f t)) 11 _ rfl rfl (by kernel_rfl) (by kernel_rfl) (QT.stab BR2.stab) ?hop ?hlast
  case hop =>
    refine Each.get (n := 11) ⟨⟨⟨⟨⟨⟨⟨⟨⟨⟨⟨trivial,?h0⟩,?h1⟩,?h2⟩,?h3⟩,?h4⟩,?h5⟩,?h6⟩,?h7⟩,?h8⟩,?h9⟩,?h10⟩
    case h0 =>
      refine OpOk.plain (by kernel_rfl) _ rfl rfl fun vs ev W hf hb hd => ?_
      have e0 : ev (.tmp 0) = .pointer (some ⟨M,0,none⟩) := hf.off 0 rfl
      clear hK
      exact gives_mono (R := fun v w' => v = .pointer (some ⟨M,0,none⟩) ∧ w' = W) (by simp [gives,go_sem,e0]) fun _ _ ⟨h1,h2⟩ => by subst h2; exact ⟨.inr ⟨by decide,h1⟩,Below.refl _ _⟩
    case h1 =>
      refine OpOk.plain (by kernel_rfl) _ rfl rfl fun vs ev W hf hb hd => ?_
      have e0 : ev (.tmp 26) = .pointer (some ⟨M,0,none⟩) := (hf.of 0 _ 26 rfl rfl rfl (of_decide_eq_true rfl)).trans ((hd 0 (by kernel_rfl)).val (by decide))
      clear hK
      exact gives_mono (R := fun v w' => v = .pointer (some ⟨M,0,none⟩) ∧ w' = W) (by simp [gives,go_sem,e0]) fun _ _ ⟨h1,h2⟩ => by subst h2; exact ⟨.inr ⟨by decide,h1⟩,Below.refl _ _⟩
    case h2 =>
      refine OpOk.plain (by kernel_rfl) _ rfl rfl fun vs ev W hf hb hd => ?_
      have e0 : ev (.tmp 27) = .pointer (some ⟨M,0,none⟩) := (hf.of 1 _ 27 rfl rfl rfl (of_decide_eq_true rfl)).trans ((hd 1 (by kernel_rfl)).val (by decide))
      clear hK
      exact gives_mono (R := fun v w' => v = .pointer (some ⟨M,0,none⟩) ∧ w' = W) (by simp [gives,go_sem,e0]) fun _ _ ⟨h1,h2⟩ => by subst h2; exact ⟨.inr ⟨by decide,h1⟩,Below.refl _ _⟩
    case h3 =>
      refine OpOk.plain (by kernel_rfl) _ rfl rfl fun vs ev W hf hb hd => ?_
      have e0 : ev (.tmp 28) = .pointer (some ⟨M,0,none⟩) := (hf.of 2 _ 28 rfl rfl rfl (of_decide_eq_true rfl)).trans ((hd 2 (by kernel_rfl)).val (by decide))
      have d0 := (H2.out.1.call hb).box.cell 0 rfl
      have d1 := (H2.out.1.call hb).box.cell 1 rfl
      clear hK
      exact gives_mono (R := fun v w' => v = .agg #[.slice ga m gc,.int .i64 out] ∧ w' = W) (by simp [gives,go_sem,e0,d0,d1]) fun _ _ ⟨h1,h2⟩ => by subst h2; exact ⟨.inr ⟨by decide,h1⟩,Below.refl _ _⟩
    case h4 =>
      refine OpOk.plain (by kernel_rfl) _ rfl rfl fun vs ev W hf hb hd => ?_
      have e0 : ev (.tmp 3) = .pointer (some ⟨z,0,none⟩) := hf.off 3 rfl
      obtain ⟨d0,d1,d2,d3⟩ := box4 (H2.out.2.1.call hb)
      clear hK
      exact gives_mono (R := fun v w' => v = (rv ⟨x0,y0,x1,y1⟩) ∧ w' = W) (by simp [gives,go_sem,e0,d0,d1,d2,d3]) fun _ _ ⟨h1,h2⟩ => by subst h2; exact ⟨.inr ⟨by decide,h1⟩,Below.refl _ _⟩
    case h5 =>
      refine OpOk.plain (by kernel_rfl) _ rfl rfl fun vs ev W hf hb hd => ?_
      have e0 : ev (.tmp 29) = .agg #[.slice ga m gc,.int .i64 out] := (hf.of 3 _ 29 rfl rfl rfl (of_decide_eq_true rfl)).trans ((hd 3 (by kernel_rfl)).val (by decide))
      have e1 : ev (.tmp 30) = (rv ⟨x0,y0,x1,y1⟩) := (hf.of 4 _ 30 rfl rfl rfl (of_decide_eq_true rfl)).trans ((hd 4 (by kernel_rfl)).val (by decide))
      refine gives_mono (R := fun v w' => ∃ e,e = Ending.returned v ∧ NaPost W m (f,t) e w') ?_ ?_
      · have hc := HNA.out W (H2.out.1.call hb)
        clear hK
        have ef := hf.func 26
        simp [gives,execOp,resolve,invoke,e0,e1,ef,go_sem]
        exact hc.mono fun e w' h => by
          obtain ⟨O,hO,he,h2⟩ := h
          exact ⟨_,he,O,hO,rfl,h2⟩
      · rintro v w' ⟨e,he,O,hO,he2,h2,h3⟩
        rw [he] at he2
        cases he2
        exact ⟨.inl ⟨by decide,O,Nat.le_trans HN2.out (Nat.le_trans hb.size hO),rfl,h2⟩,h3⟩
    case h6 =>
      refine OpOk.plain (by kernel_rfl) _ rfl rfl fun vs ev W hf hb hd => ?_
      obtain ⟨O,h1',h2',h3'⟩ := (hd 5 (by kernel_rfl)).spec (by decide)
      have e0 := (hf.of 5 _ 31 rfl rfl rfl (of_decide_eq_true rfl)).trans h2'
      clear hK
      exact gives_mono (R := fun v w' => v = .tuple #[.slice (some ⟨O,0,none⟩) m m,rv t] ∧ w' = W) (by simp [gives,go_sem,e0]) fun _ _ ⟨h1,h2⟩ => by subst h2; exact ⟨.inl ⟨by decide,by subst h1; exact ⟨O,h1',rfl,h3'⟩⟩,Below.refl _ _⟩
    case h7 =>
      refine OpOk.plain (by kernel_rfl) _ rfl rfl fun vs ev W hf hb hd => ?_
      obtain ⟨O,h1',h2',h3'⟩ := (hd 6 (by kernel_rfl)).spec (by decide)
      have e0 := (hf.of 6 _ 25 rfl rfl rfl (of_decide_eq_true rfl)).trans h2'
      clear hK
      exact gives_mono (R := fun v w' => v = .slice (some ⟨O,0,none⟩) m m ∧ w' = W) (by simp [gives,go_sem,e0]) fun _ _ ⟨h1,h2⟩ => by subst h2; exact ⟨.inl ⟨by decide,by subst h1; exact ⟨O,h1',rfl,h3'⟩⟩,Below.refl _ _⟩
    case h8 =>
      refine OpOk.plain (by kernel_rfl) _ rfl rfl fun vs ev W hf hb hd => ?_
      obtain ⟨O,h1',h2',h3'⟩ := (hd 6 (by kernel_rfl)).spec (by decide)
      have e0 := (hf.of 6 _ 25 rfl rfl rfl (of_decide_eq_true rfl)).trans h2'
      clear hK
      exact gives_mono (R := fun v w' => v = (rv t) ∧ w' = W) (by simp [gives,go_sem,e0]) fun _ _ ⟨h1,h2⟩ => by subst h2; exact ⟨.inr ⟨by decide,h1⟩,Below.refl _ _⟩
    case h9 =>
      refine OpOk.plain (by kernel_rfl) _ rfl rfl fun vs ev W hf hb hd => ?_
      clear hK
      refine gives_mono (R := fun v w' => v = .pointer (some ⟨W.heap.size,0,none⟩) ∧ w' = W.alloc (.cells (cs4 0 0 0 0) 26)) (by simp [gives,go_sem]) ?_
      rintro _ _ ⟨rfl,rfl⟩
      exact ⟨.inl ⟨by decide,_,Nat.le_trans HN2.out hb.size,rfl,Box.new W _ _⟩,below_alloc _ _⟩
    case h10 =>
      refine OpOk.plain (by kernel_rfl) _ rfl rfl fun vs ev W hf hb hd => ?_
      obtain ⟨O,h1',h2',h3'⟩ := (hd 7 (by kernel_rfl)).spec (by decide)
      have e0 := (hf.of 7 _ 32 rfl rfl rfl (of_decide_eq_true rfl)).trans h2'
      clear hK
      exact gives_mono (R := fun v w' => v = .slice (some ⟨O,0,none⟩) m m ∧ w' = W) (by simp [gives,go_sem,e0]) fun _ _ ⟨h1,h2⟩ => by subst h2; exact ⟨.inl ⟨by decide,by subst h1; exact ⟨O,h1',rfl,h3'⟩⟩,Below.refl _ _⟩
  case hlast =>
  intro vs W hb hT
  have t8 := (hT 8 (by decide)).val (by decide)
  obtain ⟨q,n9,h9,x9⟩ := (hT 9 (by decide)).spec (by decide)
  obtain ⟨O,n10,h10,x10⟩ := (hT 10 (by decide)).spec (by decide)
  refine last_plain (by kernel_rfl) rfl fun F ev hF hf => ?_
  have e1 : ev (.tmp 33) = rv t := (hf.of 8 _ 33 rfl rfl rfl (of_decide_eq_true rfl)).trans t8
  have e2 := (hf.of 9 _ 6 rfl rfl rfl (of_decide_eq_true rfl)).trans h9
  obtain ⟨q0,q1,q2,q3⟩ := box4 x9
  have f0 := x9.frozen 0
  have f1 := x9.frozen 1
  have f2 := x9.frozen 2
  have f3 := x9.frozen 3
  have H3 : Hid (MS w0 M (.slice ga m gc) out ⟨fu,al,ro,da,rm⟩ [] (.slice none 0 0) Rc.zero 0 0 [] (.slice none 0 0) ((((W.setCell ⟨q,0,none⟩ (.int .i64 t.x0)).setCell ⟨q,1,none⟩ (.int .i64 t.y0)).setCell ⟨q,2,none⟩ (.int .i64 t.x1)).setCell ⟨q,3,none⟩ (.int .i64 t.y1)) ∧ n1 ≤ ((((W.setCell ⟨q,0,none⟩ (.int .i64 t.x0)).setCell ⟨q,1,none⟩ (.int .i64 t.y0)).setCell ⟨q,2,none⟩ (.int .i64 t.x1)).setCell ⟨q,3,none⟩ (.int .i64 t.y1)).heap.size ∧ GU n1 G (.slice la n lc) lvs ((((W.setCell ⟨q,0,none⟩ (.int .i64 t.x0)).setCell ⟨q,1,none⟩ (.int .i64 t.y0)).setCell ⟨q,2,none⟩ (.int .i64 t.x1)).setCell ⟨q,3,none⟩ (.int .i64 t.y1)) ∧ Box ((((W.setCell ⟨q,0,none⟩ (.int .i64 t.x0)).setCell ⟨q,1,none⟩ (.int .i64 t.y0)).setCell ⟨q,2,none⟩ (.int .i64 t.x1)).setCell ⟨q,3,none⟩ (.int .i64 t.y1)) O (rcs (rl m f)) ∧ n1 ≤ O ∧ Box ((((W.setCell ⟨q,0,none⟩ (.int .i64 t.x0)).setCell ⟨q,1,none⟩ (.int .i64 t.y0)).setCell ⟨q,2,none⟩ (.int .i64 t.x1)).setCell ⟨q,3,none⟩ (.int .i64 t.y1)) q (cl4 t) ∧ n1 ≤ q) := by
    have hne : O ≠ q := fun e => HTW.out (boxTwo (e ▸ x10) x9)
    have hn2 : W2.heap.size ≤ q := Nat.le_trans HN2b.out n9
    have hbw : Below W2.heap.size W2 ((((W.setCell ⟨q,0,none⟩ (.int .i64 t.x0)).setCell ⟨q,1,none⟩ (.int .i64 t.y0)).setCell ⟨q,2,none⟩ (.int .i64 t.x1)).setCell ⟨q,3,none⟩ (.int .i64 t.y1)) := (((hb.setCell hn2 _).setCell hn2 _).setCell hn2 _).setCell hn2 _
    exact ⟨H2.out.1.call hbw,Nat.le_trans H2.out.2.2.1 hbw.size,H2.out.2.2.2.call hbw,(((x10.set hne _).set hne _).set hne _).set hne _,Nat.le_trans H2.out.2.2.1 (Nat.le_trans HN2b.out n10),set4_box x9 _ _ _ _,Nat.le_trans H2.out.2.2.1 hn2⟩
  refine gives_mono (R := fun v w' => v = undef ∧ w' = ((((W.setCell ⟨q,0,none⟩ (.int .i64 t.x0)).setCell ⟨q,1,none⟩ (.int .i64 t.y0)).setCell ⟨q,2,none⟩ (.int .i64 t.x1)).setCell ⟨q,3,none⟩ (.int .i64 t.y1))) (by simp [gives,go_sem,e1,e2,q0,q1,q2,q3,f0,f1,f2,f3]) ?_
  rintro _ _ ⟨rfl,rfl⟩
  subst hF
  simp [fr,Act.put,t8,h9,h10]
  generalize vs 0 = u0 at *
  generalize vs 1 = u1 at *
  generalize vs 2 = u2 at *
  generalize vs 3 = u3 at *
  generalize vs 4 = u4 at *
  generalize vs 5 = u5 at *
  generalize vs 6 = u6 at *
  generalize vs 7 = u7 at *
  generalize vs 8 = u8 at *
  generalize vs 9 = u9 at *
  generalize vs 10 = u10 at *
  clear hT hf t8 e1 e2 h9 h10
  refine hK _ _ ?_
  clear hK x9 x10 n9 n10 hb H2 q0 q1 q2 q3 f0 f1 f2 f3 HN2 HN2b
  generalize ((((W.setCell ⟨q,0,none⟩ (.int .i64 t.x0)).setCell ⟨q,1,none⟩ (.int .i64 t.y0)).setCell ⟨q,2,none⟩ (.int .i64 t.x1)).setCell ⟨q,3,none⟩ (.int .i64 t.y1)) = W3 at *
  clear W
  have HLL : Hid (∀ W vs,GU n1 G (.slice la n lc) vs W → LL W.heap.size W (.slice la n lc) (gL nds out fu)) := fun W vs hu => by
    have : gL nds out fu = G.map ofN := by rw [HG0.out]; rfl
    rw [this]
    refine hu.gi.ll fun g hg x hx => ?_
    rw [HG0.out] at hg
    obtain ⟨l,hl,rfl⟩ := List.mem_map.1 hg
    obtain ⟨a,ha,rfl⟩ := List.mem_map.1 hx
    obtain ⟨i,hi,rfl⟩ := List.mem_iff_getElem.1 hl
    have e : (grp nds out fu)[i] = (grp nds out fu).getD i [] := by simp [hi]
    rw [e] at ha
    have h1 := hgd.toGood.w_lt hi ha
    have h2 := hgd.few
    unfold In64
    omega
  have HRL : Hid ((rL nds out fu).length = n ∧ ((List.range (gL nds out fu).length).map (uN nds out fu)).length = n) := by
    have : (rL nds out fu).length = n ∧ ((List.range (gL nds out fu).length).map (uN nds out fu)).length = n := by
      rw [HN.out,HG0.out]
      exact ⟨by simp [rL,gL_len],by simp [gL_len]⟩
    exact this
  obtain ⟨R,hR⟩ : ∃ R,R = rL nds out fu := ⟨_,rfl⟩
  obtain ⟨us,hus⟩ : ∃ R,R = (List.range (gL nds out fu).length).map (uN nds out fu) := ⟨_,rfl⟩
  rw [← hR,← hus] at HRL HSP
  go_wp2_with fail
  rename_i K hK
  refine wp_region_mono (QT [.pointer (some ⟨M,0,none⟩),.pointer (some ⟨M,0,none⟩),.pointer (some ⟨M,0,none⟩),.agg #[.slice ga m gc,.int .i64 out],.slice la n lc,undef,.pointer (some ⟨M,0,none⟩),.pointer (some ⟨M,0,none⟩),.pointer (some ⟨M,0,none⟩),.agg #[.slice ga m gc,.int .i64 out],.slice la n lc,undef,undef] [5,11,12] (BR3 n1 n R us)) 13 _ rfl rfl (by kernel_rfl) (by kernel_rfl) (QT.stab BR3.stab) ?hop ?hlast
  case hop =>
    refine Each.get (n := 13) ⟨⟨⟨⟨⟨⟨⟨⟨⟨⟨⟨⟨⟨trivial,?h0⟩,?h1⟩,?h2⟩,?h3⟩,?h4⟩,?h5⟩,?h6⟩,?h7⟩,?h8⟩,?h9⟩,?h10⟩,?h11⟩,?h12⟩
    case h0 =>
      refine OpOk.plain (by kernel_rfl) _ rfl rfl fun vs ev W hf hb hd => ?_
      have e0 : ev (.tmp 0) = .pointer (some ⟨M,0,none⟩) := hf.off 0 rfl
      clear hK
      exact gives_mono (R := fun v w' => v = .pointer (some ⟨M,0,none⟩) ∧ w' = W) (by simp [gives,go_sem,e0]) fun _ _ ⟨h1,h2⟩ => by subst h2; exact ⟨.inr ⟨by decide,h1⟩,Below.refl _ _⟩
    case h1 =>
      refine OpOk.plain (by kernel_rfl) _ rfl rfl fun vs ev W hf hb hd => ?_
      have e0 : ev (.tmp 34) = .pointer (some ⟨M,0,none⟩) := (hf.of 0 _ 34 rfl rfl rfl (of_decide_eq_true rfl)).trans ((hd 0 (by kernel_rfl)).val (by decide))
      clear hK
      exact gives_mono (R := fun v w' => v = .pointer (some ⟨M,0,none⟩) ∧ w' = W) (by simp [gives,go_sem,e0]) fun _ _ ⟨h1,h2⟩ => by subst h2; exact ⟨.inr ⟨by decide,h1⟩,Below.refl _ _⟩
    case h2 =>
      refine OpOk.plain (by kernel_rfl) _ rfl rfl fun vs ev W hf hb hd => ?_
      have e0 : ev (.tmp 35) = .pointer (some ⟨M,0,none⟩) := (hf.of 1 _ 35 rfl rfl rfl (of_decide_eq_true rfl)).trans ((hd 1 (by kernel_rfl)).val (by decide))
      clear hK
      exact gives_mono (R := fun v w' => v = .pointer (some ⟨M,0,none⟩) ∧ w' = W) (by simp [gives,go_sem,e0]) fun _ _ ⟨h1,h2⟩ => by subst h2; exact ⟨.inr ⟨by decide,h1⟩,Below.refl _ _⟩
    case h3 =>
      refine OpOk.plain (by kernel_rfl) _ rfl rfl fun vs ev W hf hb hd => ?_
      have e0 : ev (.tmp 36) = .pointer (some ⟨M,0,none⟩) := (hf.of 2 _ 36 rfl rfl rfl (of_decide_eq_true rfl)).trans ((hd 2 (by kernel_rfl)).val (by decide))
      have d0 := (H3.out.1.call hb).box.cell 0 rfl
      have d1 := (H3.out.1.call hb).box.cell 1 rfl
      clear hK
      exact gives_mono (R := fun v w' => v = .agg #[.slice ga m gc,.int .i64 out] ∧ w' = W) (by simp [gives,go_sem,e0,d0,d1]) fun _ _ ⟨h1,h2⟩ => by subst h2; exact ⟨.inr ⟨by decide,h1⟩,Below.refl _ _⟩
    case h4 =>
      refine OpOk.plain (by kernel_rfl) _ rfl rfl fun vs ev W hf hb hd => ?_
      have e0 : ev (.tmp 4) = .slice la n lc := hf.off 4 rfl
      clear hK
      exact gives_mono (R := fun v w' => v = .slice la n lc ∧ w' = W) (by simp [gives,go_sem,e0]) fun _ _ ⟨h1,h2⟩ => by subst h2; exact ⟨.inr ⟨by decide,h1⟩,Below.refl _ _⟩
    case h5 =>
      refine OpOk.plain (by kernel_rfl) _ rfl rfl fun vs ev W hf hb hd => ?_
      have e0 : ev (.tmp 37) = .agg #[.slice ga m gc,.int .i64 out] := (hf.of 3 _ 37 rfl rfl rfl (of_decide_eq_true rfl)).trans ((hd 3 (by kernel_rfl)).val (by decide))
      have e1 : ev (.tmp 38) = .slice la n lc := (hf.of 4 _ 38 rfl rfl rfl (of_decide_eq_true rfl)).trans ((hd 4 (by kernel_rfl)).val (by decide))
      refine gives_mono (R := fun v w' => ∃ e,e = Ending.returned v ∧ RdPost W R e w') ?_ ?_
      · have hc := (HSP.out W _ (H3.out.1.call hb) (HLL.out W _ (H3.out.2.2.1.call hb))).1
        clear hK
        have ef := hf.func 27
        simp [gives,execOp,resolve,invoke,e0,e1,ef,go_sem]
        exact hc.mono fun e w' h => by
          obtain ⟨a,c,vs,he,h2,h3⟩ := h
          exact ⟨_,he,a,c,vs,rfl,h2,h3⟩
      · rintro v w' ⟨e,he,a,c,vs,he2,h2,h3⟩
        rw [he] at he2
        cases he2
        exact ⟨.inl ⟨by decide,a,c,vs,by rw [HRL.out.1],HRL.out.1 ▸ h2.mono (Nat.le_trans H3.out.2.1 hb.size)⟩,h3⟩
    case h6 =>
      refine OpOk.plain (by kernel_rfl) _ rfl rfl fun vs ev W hf hb hd => ?_
      have e0 : ev (.tmp 0) = .pointer (some ⟨M,0,none⟩) := hf.off 0 rfl
      clear hK
      exact gives_mono (R := fun v w' => v = .pointer (some ⟨M,0,none⟩) ∧ w' = W) (by simp [gives,go_sem,e0]) fun _ _ ⟨h1,h2⟩ => by subst h2; exact ⟨.inr ⟨by decide,h1⟩,Below.refl _ _⟩
    case h7 =>
      refine OpOk.plain (by kernel_rfl) _ rfl rfl fun vs ev W hf hb hd => ?_
      have e0 : ev (.tmp 40) = .pointer (some ⟨M,0,none⟩) := (hf.of 6 _ 40 rfl rfl rfl (of_decide_eq_true rfl)).trans ((hd 6 (by kernel_rfl)).val (by decide))
      clear hK
      exact gives_mono (R := fun v w' => v = .pointer (some ⟨M,0,none⟩) ∧ w' = W) (by simp [gives,go_sem,e0]) fun _ _ ⟨h1,h2⟩ => by subst h2; exact ⟨.inr ⟨by decide,h1⟩,Below.refl _ _⟩
    case h8 =>
      refine OpOk.plain (by kernel_rfl) _ rfl rfl fun vs ev W hf hb hd => ?_
      have e0 : ev (.tmp 41) = .pointer (some ⟨M,0,none⟩) := (hf.of 7 _ 41 rfl rfl rfl (of_decide_eq_true rfl)).trans ((hd 7 (by kernel_rfl)).val (by decide))
      clear hK
      exact gives_mono (R := fun v w' => v = .pointer (some ⟨M,0,none⟩) ∧ w' = W) (by simp [gives,go_sem,e0]) fun _ _ ⟨h1,h2⟩ => by subst h2; exact ⟨.inr ⟨by decide,h1⟩,Below.refl _ _⟩
    case h9 =>
      refine OpOk.plain (by kernel_rfl) _ rfl rfl fun vs ev W hf hb hd => ?_
      have e0 : ev (.tmp 42) = .pointer (some ⟨M,0,none⟩) := (hf.of 8 _ 42 rfl rfl rfl (of_decide_eq_true rfl)).trans ((hd 8 (by kernel_rfl)).val (by decide))
      have d0 := (H3.out.1.call hb).box.cell 0 rfl
      have d1 := (H3.out.1.call hb).box.cell 1 rfl
      clear hK
      exact gives_mono (R := fun v w' => v = .agg #[.slice ga m gc,.int .i64 out] ∧ w' = W) (by simp [gives,go_sem,e0,d0,d1]) fun _ _ ⟨h1,h2⟩ => by subst h2; exact ⟨.inr ⟨by decide,h1⟩,Below.refl _ _⟩
    case h10 =>
      refine OpOk.plain (by kernel_rfl) _ rfl rfl fun vs ev W hf hb hd => ?_
      have e0 : ev (.tmp 4) = .slice la n lc := hf.off 4 rfl
      clear hK
      exact gives_mono (R := fun v w' => v = .slice la n lc ∧ w' = W) (by simp [gives,go_sem,e0]) fun _ _ ⟨h1,h2⟩ => by subst h2; exact ⟨.inr ⟨by decide,h1⟩,Below.refl _ _⟩
    case h11 =>
      refine OpOk.plain (by kernel_rfl) _ rfl rfl fun vs ev W hf hb hd => ?_
      have e0 : ev (.tmp 43) = .agg #[.slice ga m gc,.int .i64 out] := (hf.of 9 _ 43 rfl rfl rfl (of_decide_eq_true rfl)).trans ((hd 9 (by kernel_rfl)).val (by decide))
      have e1 : ev (.tmp 44) = .slice la n lc := (hf.of 10 _ 44 rfl rfl rfl (of_decide_eq_true rfl)).trans ((hd 10 (by kernel_rfl)).val (by decide))
      refine gives_mono (R := fun v w' => ∃ e,e = Ending.returned v ∧ UnPost W us e w') ?_ ?_
      · have hc := (HSP.out W _ (H3.out.1.call hb) (HLL.out W _ (H3.out.2.2.1.call hb))).2
        clear hK
        have ef := hf.func 28
        simp [gives,execOp,resolve,invoke,e0,e1,ef,go_sem]
        exact hc.mono fun e w' h => by
          obtain ⟨O,hO,he,h2⟩ := h
          exact ⟨_,he,O,hO,rfl,h2⟩
      · rintro v w' ⟨e,he,O,hO,he2,h2,h3⟩
        rw [he] at he2
        cases he2
        exact ⟨.inl ⟨by decide,O,Nat.le_trans H3.out.2.1 (Nat.le_trans hb.size hO),by rw [HRL.out.2],h2⟩,h3⟩
    case h12 =>
      refine OpOk.plain (by kernel_rfl) _ rfl rfl fun vs ev W hf hb hd => ?_
      obtain ⟨a',c',vs',h1',h2'⟩ := (hd 5 (by kernel_rfl)).spec (by decide)
      have e0 := (hf.of 5 _ 39 rfl rfl rfl (of_decide_eq_true rfl)).trans h1'
      clear hK
      exact gives_mono (R := fun v w' => v = .slice a' n c' ∧ w' = W) (by simp [gives,go_sem,e0]) fun _ _ ⟨h1,h2⟩ => by subst h2; exact ⟨.inl ⟨by decide,by subst h1; exact ⟨a',c',vs',rfl,h2'⟩⟩,Below.refl _ _⟩
  case hlast =>
  intro vs W hb hT
  obtain ⟨UO,n11,h11,x11⟩ := (hT 11 (by decide)).spec (by decide)
  obtain ⟨ra,rc,rvs,h12,x12⟩ := (hT 12 (by decide)).spec (by decide)
  refine last_plain (by kernel_rfl) rfl fun F ev hF hf => ?_
  have e1 := (hf.of 11 _ 45 rfl rfl rfl (of_decide_eq_true rfl)).trans h11
  have H5 : Hid (MS w0 M (.slice ga m gc) out ⟨fu,al,ro,da,rm⟩ [] (.slice none 0 0) Rc.zero 0 0 [] (.slice none 0 0) W ∧ n1 ≤ W.heap.size ∧ GU n1 G (.slice la n lc) lvs W ∧ Box W O (rcs (rl m f)) ∧ n1 ≤ O ∧ Box W q (cl4 t) ∧ n1 ≤ q ∧ GI n1 R (.slice ra n rc) rvs W ∧ Box W UO (us.map (Value.int .i64)) ∧ n1 ≤ UO) := ⟨H3.out.1.call hb,Nat.le_trans H3.out.2.1 hb.size,H3.out.2.2.1.call hb,H3.out.2.2.2.1.call hb,H3.out.2.2.2.2.1,H3.out.2.2.2.2.2.1.call hb,H3.out.2.2.2.2.2.2,x12,x11,n11⟩
  refine gives_mono (R := fun v w' => v = .slice (some ⟨UO,0,none⟩) n n ∧ w' = W) (by simp [gives,go_sem,e1]) ?_
  rintro _ _ ⟨rfl,rfl⟩
  subst hF
  simp [fr,Act.put,h11,h12]
  generalize vs 0 = u0 at *
  generalize vs 1 = u1 at *
  generalize vs 2 = u2 at *
  generalize vs 3 = u3 at *
  generalize vs 4 = u4 at *
  generalize vs 5 = u5 at *
  generalize vs 6 = u6 at *
  generalize vs 7 = u7 at *
  generalize vs 8 = u8 at *
  generalize vs 9 = u9 at *
  generalize vs 10 = u10 at *
  generalize vs 11 = u11 at *
  generalize vs 12 = u12 at *
  clear hT hf h11 h12 e1
  refine hK _ _ ?_
  clear hK n11 x11 x12 hb H3 HSP HLL
  rename World => W5
  have HRS : Hid (R = rL nds out fu ∧ us = (List.range (gL nds out fu).length).map (uN nds out fu)) := ⟨hR,hus⟩
  obtain ⟨raw,hraw⟩ : ∃ r,r = raws nds out fu ⟨x0,y0,x1,y1⟩ := ⟨_,rfl⟩
  have HRAW : Hid (raw = raws nds out fu ⟨x0,y0,x1,y1⟩ ∧ raw.length = n ∧ (∀ i,i < n → raw.getD i Ps.none = ⟨G.getD i [],R.getD i [],f (lastN (G.getD i [])),-1,us.getD i 0⟩) ∧ ∀ i,i < n → ∃ k,(G.getD i []).length = k + 1 ∧ k < 1000 ∧ lastN (G.getD i []) < m) := by
    have : raw = raws nds out fu ⟨x0,y0,x1,y1⟩ ∧ raw.length = n ∧ (∀ i,i < n → raw.getD i Ps.none = ⟨G.getD i [],R.getD i [],f (lastN (G.getD i [])),-1,us.getD i 0⟩) ∧ ∀ i,i < n → ∃ k,(G.getD i []).length = k + 1 ∧ k < 1000 ∧ lastN (G.getD i []) < m := by
      have hst := HST.out
      refine ⟨hraw,by rw [hraw,raws_len,HN.out,HG0.out],fun i hi => ?_,fun i hi => ?_⟩
      · rw [HN.out,HG0.out] at hi
        rw [hraw,raws_get hi]
        unfold rawP bxN
        rw [← hst.1,HG0.out,HRS.out.1,HRS.out.2]
        have : ((List.range (gL nds out fu).length).map (uN nds out fu)).getD i 0 = uN nds out fu i := by simp [gL_len,hi]
        rw [this]
      · rw [HN.out,HG0.out] at hi
        rw [HG0.out,hst.2]
        have h1 := grp_lens hgd.toGood hi
        exact ⟨((grp nds out fu).getD i []).length - 1,by omega,by omega,hgd.toGood.w_lt hi (hgd.toGood.last_in hi)⟩
    exact this
  have hn9 : n ≤ 900 := by
    rw [HN.out,HG0.out]
    have := grp_le hgd.toGood (on := fu)
    omega
  have HUS : Hid (us.length = n ∧ R.length = n) := ⟨HRL.out.2,HRL.out.1⟩
  have HW6 : Hid (BI w0 M (.slice ga m gc) out ⟨fu,al,ro,da,rm⟩ W5 n1 raw 0 (W5.alloc (.cells (cs4 Rc.zero.x0 Rc.zero.y0 Rc.zero.x1 Rc.zero.y1) 26))) := by
    have hb := below_new W5 (.cells (cs4 Rc.zero.x0 Rc.zero.y0 Rc.zero.x1 Rc.zero.y1) 26)
    exact ⟨[],_,rfl,H5.out.1.call hb,World.ownsRow_nil _ _ _ _,TB.new W5 _ _,(Mid.refl _ _).call (Nat.le_refl _) hb,by simp⟩
  clear hR hus hraw HRL
  obtain ⟨zh,hzh⟩ : ∃ zh,zh = W5.heap.size := ⟨_,rfl⟩
  have HZH : Hid (zh = W5.heap.size) := hzh
  go_wp2_with fail
  rw [← hzh]
  clear hzh
  go_loopw [10,11,12,49] (fun _ _ _ iv W => ∃ i : Nat,i ≤ n ∧ iv = .int .i64 i ∧ BI w0 M (.slice ga m gc) out ⟨fu,al,ro,da,rm⟩ W5 n1 raw i W) (fun _ _ _ iv _ => n - (intOf iv).toNat)
  case atStart => exact ⟨0,Nat.zero_le _,rfl,HW6.out⟩
  case round =>
    obtain ⟨i,hi3,rfl,hbi⟩ := hrel
    clear HW6
    by_cases hil : i < n
    · obtain ⟨pl,pv,hps,hm,hr,hh,hmid,hsz⟩ := hbi
      obtain ⟨k,hk1,hk2,hk3⟩ := HRAW.out.2.2.2 i hil
      have hraw := HRAW.out.2.2.1 i hil
      obtain ⟨g,hg⟩ : ∃ g,g = G.getD i [] := ⟨_,rfl⟩
      obtain ⟨rd,hrd⟩ : ∃ g,g = R.getD i [] := ⟨_,rfl⟩
      obtain ⟨ui,hui⟩ : ∃ g,g = us.getD i 0 := ⟨_,rfl⟩
      obtain ⟨lg,x,y,hla,hlgB,cg,og⟩ := H5.out.2.2.1.gi.row (by rw [List.length_map]; exact HN.out) hil
      have e1 : (G.map ofN).getD i [] = ofN g := by rw [hg]; have := HN.out; simp [show i < G.length by omega]
      rw [e1,ofN_len] at cg og
      rw [← hg] at hk1 hk3 hraw
      rw [hk1] at cg og
      obtain ⟨xg,hx,hxB,cl⟩ := own_last og hk1
      obtain ⟨rg,rx,ry,hra,hrgB,cr,orr⟩ := H5.out.2.2.2.2.2.2.2.1.row HUS.out.2.symm hil
      rw [← hrd] at cr orr hraw
      obtain ⟨rl0,hrl0⟩ : ∃ l,l = rd.length := ⟨_,rfl⟩
      have orr' : OwnP W5 n1 (.slice rx rl0 ry) rd := by rw [hrl0]; exact orr
      have cu : W5.cell? ⟨UO,i,none⟩ = some (.int .i64 ui) := H5.out.2.2.2.2.2.2.2.2.1.cell i (by rw [hui]; simp [show i < us.length by rw [HUS.out.1]; exact hil])
      rw [← hui] at hraw
      obtain ⟨lk,hlk⟩ : ∃ lk,lk = lastN g := ⟨_,rfl⟩
      rw [← hlk] at cl hk3 hraw
      obtain ⟨c0,c1,c2,c3⟩ := rbox_get H5.out.2.2.2.1 (rl_get f hk3)
      obtain ⟨bx,hbx⟩ : ∃ b,b = f lk := ⟨_,rfl⟩
      rw [← hbx] at c0 c1 c2 c3 hraw
      subst hla hx hra
      rw [← hrl0] at cr
      have HS : Hid (∀ W,Mid n1 W5 W → W.cell? ⟨lg,i,none⟩ = some (.slice (some ⟨xg,0,none⟩) (k + 1) y) ∧ W.cell? ⟨xg,k,none⟩ = some (.int .i64 lk) ∧ (W.cell? ⟨O,lk * 4,none⟩ = some (.int .i64 bx.x0) ∧ W.cell? ⟨O,lk * 4 + 1,none⟩ = some (.int .i64 bx.y0) ∧ W.cell? ⟨O,lk * 4 + 2,none⟩ = some (.int .i64 bx.x1) ∧ W.cell? ⟨O,lk * 4 + 3,none⟩ = some (.int .i64 bx.y1)) ∧ W.cell? ⟨rg,i,none⟩ = some (.slice rx rl0 ry) ∧ W.cell? ⟨UO,i,none⟩ = some (.int .i64 ui) ∧ OwnP W n1 (.slice (some ⟨xg,0,none⟩) (k + 1) y) (ofN g) ∧ OwnP W n1 (.slice rx rl0 ry) rd) := fun W hW => by
        have hO := H5.out.2.2.2.2.1
        have hU := H5.out.2.2.2.2.2.2.2.2.2
        exact ⟨hW.cell hlgB cg,hW.cell hxB cl,⟨hW.cell hO c0,hW.cell hO c1,hW.cell hO c2,hW.cell hO c3⟩,hW.cell hrgB cr,hW.cell hU cu,owns_mid og hW (Nat.le_refl _),owns_mid orr' hW (Nat.le_refl _)⟩
      have HRI : Hid (raw.take (i + 1) = raw.take i ++ [⟨g,rd,bx,-1,ui⟩]) := by
        have : raw.take (i + 1) = raw.take i ++ [⟨g,rd,bx,-1,ui⟩] := by
          rw [List.take_add_one,← hraw]
          have := HRAW.out.2.1
          simp [show i < raw.length by omega]
        exact this
      obtain ⟨hu,hhu⟩ : ∃ h,h = hullN ((raw.take i).map (·.box)) := ⟨_,rfl⟩
      rw [← hhu] at hh
      have HHU : Hid (hullN ((raw.take (i + 1)).map (·.box)) = joinR hu bx) := by
        have : hullN ((raw.take (i + 1)).map (·.box)) = joinR hu bx := by rw [HRI.out,List.map_append,hhu]; exact hullN_snoc _ _
        exact this
      clear cg og cl cr orr orr' cu c0 c1 c2 c3 hk1 hraw hg hrd hui hrl0 hlk hbx hhu e1
      obtain ⟨cg,cl,⟨c0,c1,c2,c3⟩,hrest⟩ := HS.out wr hmid
      clear hrest
      obtain ⟨b0,b1,b2,b3⟩ := bx
      obtain ⟨h0,h1,h2,h3⟩ := hu
      dsimp only at c0 c1 c2 c3
      have hi0 : (0 : Int) ≤ (i : Int) := by omega
      have hi1 : (i : Int) < (n : Int) := by omega
      have hk0 : (0 : Int) ≤ (lk : Int) := by omega
      have hk1 : (lk : Int) < (m : Int) := by omega
      have hm900 : m ≤ 900 := by rw [HST.out.2]; exact hgd.ok (on := fu).few
      have HX : Hid (MS w0 M (.slice ga m gc) out ⟨fu,al,ro,da,rm⟩ pl pv Rc.zero 0 0 [] (.slice none 0 0) wr ∧ wr.ownsRow (zh + 1) 37 8 pv pl.length (pcs pl) ∧ TB wr zh (cl4 ⟨h0,h1,h2,h3⟩) 26 ∧ Mid n1 W5 wr ∧ zh + 1 ≤ wr.heap.size ∧ psl pl = raw.take i) := by
        rw [HZH.out]
        exact ⟨hm,hr,hh,hmid,hsz,hps⟩
      clear hm hr hh hmid hsz hps
      obtain ⟨q0,q1,q2,q3⟩ := box4 (HX.out.2.2.1.box.alloc (.cells (cs4 b0 b1 b2 b3) 26))
      have XB := TB.new wr [.int .i64 b0,.int .i64 b1,.int .i64 b2,.int .i64 b3] 26
      have hbw := below_new wr (.cells (cs4 b0 b1 b2 b3) 26)
      obtain ⟨zb,hzb⟩ : ∃ z,z = wr.heap.size := ⟨_,rfl⟩
      have HX7 : Hid (MS w0 M (.slice ga m gc) out ⟨fu,al,ro,da,rm⟩ pl pv Rc.zero 0 0 [] (.slice none 0 0) (wr.alloc (.cells (cs4 b0 b1 b2 b3) 26)) ∧ (wr.alloc (.cells (cs4 b0 b1 b2 b3) 26)).ownsRow (zh + 1) 37 8 pv pl.length (pcs pl) ∧ TB (wr.alloc (.cells (cs4 b0 b1 b2 b3) 26)) zh (cl4 ⟨h0,h1,h2,h3⟩) 26 ∧ Mid n1 W5 (wr.alloc (.cells (cs4 b0 b1 b2 b3) 26)) ∧ TB (wr.alloc (.cells (cs4 b0 b1 b2 b3) 26)) zb (cl4 ⟨b0,b1,b2,b3⟩) 26 ∧ psl pl = raw.take i ∧ zh + 1 ≤ zb ∧ zh + 1 ≤ (wr.alloc (.cells (cs4 b0 b1 b2 b3) 26)).heap.size) := by
        have hzs := HX.out.2.2.2.2.1
        refine ⟨HX.out.1.call hbw,owns_below HX.out.2.1 hbw (Nat.le_refl _),HX.out.2.2.1.call hbw,HX.out.2.2.2.1.call (by rw [← HZH.out]; omega) hbw,?_,HX.out.2.2.2.2.2,by rw [hzb]; exact hzs,Nat.le_trans hzs hbw.size⟩
        rw [hzb]
        exact XB
      clear XB hbw HX
      go_wp2_with fail
      rw [← hzb]
      clear hzb cg cl c0 c1 c2 c3
      generalize wr.alloc (.cells (cs4 b0 b1 b2 b3) 26) = W7 at *
      clear wr
      refine (join_c ⟨h0,h1,h2,h3⟩ ⟨b0,b1,b2,b3⟩ W7).mono ?_; rintro e w8 ⟨rfl,hb8⟩
      obtain ⟨⟨j0,j1,j2,j3⟩,hj⟩ : ∃ j,j = joinR ⟨h0,h1,h2,h3⟩ ⟨b0,b1,b2,b3⟩ := ⟨_,rfl⟩
      rw [← hj] at HHU ⊢
      clear hj
      have HX8 : Hid (MS w0 M (.slice ga m gc) out ⟨fu,al,ro,da,rm⟩ pl pv Rc.zero 0 0 [] (.slice none 0 0) w8 ∧ w8.ownsRow (zh + 1) 37 8 pv pl.length (pcs pl) ∧ TB w8 zh (cl4 ⟨h0,h1,h2,h3⟩) 26 ∧ Mid n1 W5 w8 ∧ TB w8 zb (cl4 ⟨b0,b1,b2,b3⟩) 26 ∧ psl pl = raw.take i ∧ zh + 1 ≤ zb ∧ zh + 1 ≤ w8.heap.size) := by
        have hzs := HX7.out.2.2.2.2.2.2.2
        exact ⟨HX7.out.1.call hb8,owns_below HX7.out.2.1 hb8 (Nat.le_refl _),HX7.out.2.2.1.call hb8,HX7.out.2.2.2.1.call (by rw [← HZH.out]; omega) hb8,HX7.out.2.2.2.2.1.call hb8,HX7.out.2.2.2.2.2.1,HX7.out.2.2.2.2.2.2.1,Nat.le_trans hzs hb8.size⟩
      clear hb8 HX7 q0 q1 q2 q3
      obtain ⟨q0,q1,q2,q3⟩ := box4 HX8.out.2.2.1.box
      have f0 := HX8.out.2.2.1.box.frozen 0
      have f1 := HX8.out.2.2.1.box.frozen 1
      have f2 := HX8.out.2.2.1.box.frozen 2
      have f3 := HX8.out.2.2.1.box.frozen 3
      have HX9 : Hid (MS w0 M (.slice ga m gc) out ⟨fu,al,ro,da,rm⟩ pl pv Rc.zero 0 0 [] (.slice none 0 0) ((((w8.setCell ⟨zh,0,none⟩ (.int .i64 j0)).setCell ⟨zh,1,none⟩ (.int .i64 j1)).setCell ⟨zh,2,none⟩ (.int .i64 j2)).setCell ⟨zh,3,none⟩ (.int .i64 j3)) ∧ ((((w8.setCell ⟨zh,0,none⟩ (.int .i64 j0)).setCell ⟨zh,1,none⟩ (.int .i64 j1)).setCell ⟨zh,2,none⟩ (.int .i64 j2)).setCell ⟨zh,3,none⟩ (.int .i64 j3)).ownsRow (zh + 1) 37 8 pv pl.length (pcs pl) ∧ TB ((((w8.setCell ⟨zh,0,none⟩ (.int .i64 j0)).setCell ⟨zh,1,none⟩ (.int .i64 j1)).setCell ⟨zh,2,none⟩ (.int .i64 j2)).setCell ⟨zh,3,none⟩ (.int .i64 j3)) zh (cl4 ⟨j0,j1,j2,j3⟩) 26 ∧ Mid n1 W5 ((((w8.setCell ⟨zh,0,none⟩ (.int .i64 j0)).setCell ⟨zh,1,none⟩ (.int .i64 j1)).setCell ⟨zh,2,none⟩ (.int .i64 j2)).setCell ⟨zh,3,none⟩ (.int .i64 j3)) ∧ TB ((((w8.setCell ⟨zh,0,none⟩ (.int .i64 j0)).setCell ⟨zh,1,none⟩ (.int .i64 j1)).setCell ⟨zh,2,none⟩ (.int .i64 j2)).setCell ⟨zh,3,none⟩ (.int .i64 j3)) zb (cl4 ⟨b0,b1,b2,b3⟩) 26 ∧ psl pl = raw.take i ∧ zh + 1 ≤ zb ∧ zh + 1 ≤ ((((w8.setCell ⟨zh,0,none⟩ (.int .i64 j0)).setCell ⟨zh,1,none⟩ (.int .i64 j1)).setCell ⟨zh,2,none⟩ (.int .i64 j2)).setCell ⟨zh,3,none⟩ (.int .i64 j3)).heap.size) := by
        obtain ⟨g1,g2,g3,g4,g5,g6,g7,g8⟩ := HX8.out
        have hw0 : w0.heap.size ≤ zh := by
          have := HMn.out
          have h2 := g1.hM
          have h3 := H5.out.2.1
          rw [← HZH.out] at h3
          omega
        have hzz : zb ≠ zh := by omega
        have t1 := g3.put 0 (.int .i64 j0)
        have t2 := t1.put 1 (.int .i64 j1)
        have t3 := t2.put 2 (.int .i64 j2)
        have t4 := t3.put 3 (.int .i64 j3)
        have rk : ∀ W : World,W.ownsRow (zh + 1) 37 8 pv pl.length (pcs pl) → ∀ k v,(W.setCell ⟨zh,k,none⟩ v).ownsRow (zh + 1) 37 8 pv pl.length (pcs pl) := fun W hr k v => owns_set hr (Nat.lt_succ_self zh) v
        have zz : zh < n1 ∨ W5.heap.size ≤ zh := .inr (Nat.le_of_eq HZH.out.symm)
        exact ⟨(((g1.away g3 hw0 0 _).away t1 hw0 1 _).away t2 hw0 2 _).away t3 hw0 3 _,rk _ (rk _ (rk _ (rk _ g2 _ _) _ _) _ _) _ _,t4,(((g4.set zz _).set zz _).set zz _).set zz _,(((g5.set hzz _).set hzz _).set hzz _).set hzz _,g6,g7,by simpa using g8⟩
      clear HX8
      go_wp2_with fail
      rename_i K hK
      clear q0 q1 q2 q3 f0 f1 f2 f3
      generalize ((((w8.setCell ⟨zh,0,none⟩ (.int .i64 j0)).setCell ⟨zh,1,none⟩ (.int .i64 j1)).setCell ⟨zh,2,none⟩ (.int .i64 j2)).setCell ⟨zh,3,none⟩ (.int .i64 j3)) = W9 at *
      clear w8 W7
      obtain ⟨n2,hn2⟩ : ∃ n,n = W9.heap.size := ⟨_,rfl⟩
      obtain ⟨pn,hpn⟩ : ∃ n,n = pl.length := ⟨_,rfl⟩
      have HPN : Hid (pn = pl.length ∧ pn = i) := by
        have : pn = pl.length ∧ pn = i := by
          have h6 := congrArg List.length HX9.out.2.2.2.2.2.1
          rw [psl_len,List.length_take,HRAW.out.2.1] at h6
          omega
        exact this
      have HPF : Hid (∃ a c',pv = .slice a pn c') := by
        have : ∃ a c',pv = .slice a pn c' := by rw [hpn]; exact HX9.out.1.prs.form
        exact this
      have HBK : Hid (∀ k,pv.ownBlock = some k → k < n2) := fun k hk => by rw [hn2]; exact (World.ownsRow.lt HX9.out.2.1 k hk).2
      have HN2 : Hid (W5.heap.size ≤ n2 ∧ zh + 1 ≤ n2 ∧ w0.heap.size ≤ zh + 1 ∧ w0.heap.size ≤ n1) := by
        have : W5.heap.size ≤ n2 ∧ zh + 1 ≤ n2 ∧ w0.heap.size ≤ zh + 1 ∧ w0.heap.size ≤ n1 := by
          have h2 := HX9.out.1.hM
          have h3 := H5.out.2.1
          have h8 := HX9.out.2.2.2.2.2.2.2
          have h9 := HMn.out
          rw [← HZH.out] at h3 ⊢
          omega
        exact this
      have HXI : Hid (MS w0 M (.slice ga m gc) out ⟨fu,al,ro,da,rm⟩ pl pv Rc.zero 0 0 [] (.slice none 0 0) W9 ∧ W9.ownsRow (zh + 1) 37 8 pv pn (pcs pl) ∧ TB W9 zh (cl4 ⟨j0,j1,j2,j3⟩) 26 ∧ TB W9 zb (cl4 ⟨b0,b1,b2,b3⟩) 26 ∧ Mid n1 W5 W9 ∧ n2 ≤ W9.heap.size) := by
        rw [hpn]
        exact ⟨HX9.out.1,HX9.out.2.1,HX9.out.2.2.1,HX9.out.2.2.2.2.1,HX9.out.2.2.2.1,Nat.le_of_eq hn2⟩
      have HPS : Hid (psl pl = raw.take i) := HX9.out.2.2.2.2.2.1
      clear HX9 hn2 hpn
      have hb0 : Below W9.heap.size W9 W9.drew := (Below.refl _ _).drew
      refine wp_region_last (fun W => MS w0 M (.slice ga m gc) out ⟨fu,al,ro,da,rm⟩ pl pv Rc.zero 0 0 [] (.slice none 0 0) W ∧ W.ownsRow (zh + 1) 37 8 pv pn (pcs pl) ∧ TB W zh (cl4 ⟨j0,j1,j2,j3⟩) 26 ∧ TB W zb (cl4 ⟨b0,b1,b2,b3⟩) 26 ∧ Mid n1 W5 W ∧ n2 ≤ W.heap.size) (ApT [.pointer (some ⟨M,0,none⟩),.pointer (some ⟨M,0,none⟩),.pointer (some ⟨M,0,none⟩),.pointer (some ⟨M,7,none⟩),.pointer (some ⟨M,7,none⟩),pv,.slice (some ⟨xg,0,none⟩) (k + 1) y,.slice (some ⟨rg,0,none⟩) n rc,.int .i64 i,.pointer (some ⟨rg,i,none⟩),.slice rx rl0 ry,(rv ⟨b0,b1,b2,b3⟩),.slice (some ⟨UO,0,none⟩) n n,.int .i64 i,.pointer (some ⟨UO,i,none⟩),.int .i64 ui,.agg #[.slice (some ⟨xg,0,none⟩) (k + 1) y,.slice rx rl0 ry,.int .i64 b0,.int .i64 b1,.int .i64 b2,.int .i64 b3,.int .i64 (-1),.int .i64 ui],undef,undef,.pointer (some ⟨M,0,none⟩),.pointer (some ⟨M,7,none⟩),.pointer (some ⟨M,7,none⟩)] 17 18 n2 [.slice (some ⟨xg,0,none⟩) (k + 1) y,.slice rx rl0 ry,.int .i64 b0,.int .i64 b1,.int .i64 b2,.int .i64 b3,.int .i64 (-1),.int .i64 ui] 37 (zh + 1) 8 pn (pcs pl)) 22 _ rfl rfl (by kernel_rfl) (by kernel_rfl) ⟨HXI.out.1.call hb0,owns_below HXI.out.2.1 hb0 (Nat.le_refl _),HXI.out.2.2.1.call hb0,HXI.out.2.2.2.1.call hb0,HXI.out.2.2.2.2.1.call (Nat.le_trans HN2.out.1 HXI.out.2.2.2.2.2) hb0,HXI.out.2.2.2.2.2⟩ ?hop ?hlast
      case hop =>
        refine Each.get (n := 22) ⟨⟨⟨⟨⟨⟨⟨⟨⟨⟨⟨⟨⟨⟨⟨⟨⟨⟨⟨⟨⟨⟨trivial,?h0⟩,?h1⟩,?h2⟩,?h3⟩,?h4⟩,?h5⟩,?h6⟩,?h7⟩,?h8⟩,?h9⟩,?h10⟩,?h11⟩,?h12⟩,?h13⟩,?h14⟩,?h15⟩,?h16⟩,?h17⟩,?h18⟩,?h19⟩,?h20⟩,?h21⟩
        case h0 =>
          refine OpIs.plain (by kernel_rfl) _ rfl rfl fun vs ev W hf hI hd => ?_
          have e0 : ev (.tmp 0) = .pointer (some ⟨M,0,none⟩) := hf.off 0 rfl
          clear hK
          exact gives_pure (v := .pointer (some ⟨M,0,none⟩)) hI (by simp [gives,go_sem,e0]) (.inr (.inr ⟨by decide,by decide,rfl⟩))
        case h1 =>
          refine OpIs.plain (by kernel_rfl) _ rfl rfl fun vs ev W hf hI hd => ?_
          have e0 : ev (.tmp 0) = .pointer (some ⟨M,0,none⟩) := hf.off 0 rfl
          clear hK
          exact gives_pure (v := .pointer (some ⟨M,0,none⟩)) hI (by simp [gives,go_sem,e0]) (.inr (.inr ⟨by decide,by decide,rfl⟩))
        case h2 =>
          refine OpIs.plain (by kernel_rfl) _ rfl rfl fun vs ev W hf hI hd => ?_
          have e0 : ev (.tmp 67) = .pointer (some ⟨M,0,none⟩) := (hf.of 1 _ 67 rfl rfl rfl (of_decide_eq_true rfl)).trans ((hd 1 (by kernel_rfl)).val (by decide) (by decide))
          clear hK
          exact gives_pure (v := .pointer (some ⟨M,0,none⟩)) hI (by simp [gives,go_sem,e0]) (.inr (.inr ⟨by decide,by decide,rfl⟩))
        case h3 =>
          refine OpIs.plain (by kernel_rfl) _ rfl rfl fun vs ev W hf hI hd => ?_
          have e0 : ev (.tmp 68) = .pointer (some ⟨M,0,none⟩) := (hf.of 2 _ 68 rfl rfl rfl (of_decide_eq_true rfl)).trans ((hd 2 (by kernel_rfl)).val (by decide) (by decide))
          clear hK
          exact gives_pure (v := .pointer (some ⟨M,7,none⟩)) hI (by simp [gives,go_sem,e0]) (.inr (.inr ⟨by decide,by decide,rfl⟩))
        case h4 =>
          refine OpIs.plain (by kernel_rfl) _ rfl rfl fun vs ev W hf hI hd => ?_
          have e0 : ev (.tmp 69) = .pointer (some ⟨M,7,none⟩) := (hf.of 3 _ 69 rfl rfl rfl (of_decide_eq_true rfl)).trans ((hd 3 (by kernel_rfl)).val (by decide) (by decide))
          clear hK
          exact gives_pure (v := .pointer (some ⟨M,7,none⟩)) hI (by simp [gives,go_sem,e0]) (.inr (.inr ⟨by decide,by decide,rfl⟩))
        case h5 =>
          refine OpIs.plain (by kernel_rfl) _ rfl rfl fun vs ev W hf hI hd => ?_
          have e0 : ev (.tmp 70) = .pointer (some ⟨M,7,none⟩) := (hf.of 4 _ 70 rfl rfl rfl (of_decide_eq_true rfl)).trans ((hd 4 (by kernel_rfl)).val (by decide) (by decide))
          have d0 := hI.1.box.cell 7 rfl
          clear hK
          exact gives_pure (v := pv) hI (by simp [gives,go_sem,e0,d0]) (.inr (.inr ⟨by decide,by decide,rfl⟩))
        case h6 =>
          refine OpIs.plain (by kernel_rfl) _ rfl rfl fun vs ev W hf hI hd => ?_
          have e0 : ev (.tmp 11) = .slice (some ⟨xg,0,none⟩) (k + 1) y := hf.off 11 rfl
          clear hK
          exact gives_pure (v := .slice (some ⟨xg,0,none⟩) (k + 1) y) hI (by simp [gives,go_sem,e0]) (.inr (.inr ⟨by decide,by decide,rfl⟩))
        case h7 =>
          refine OpIs.plain (by kernel_rfl) _ rfl rfl fun vs ev W hf hI hd => ?_
          have e0 : ev (.tmp 7) = .slice (some ⟨rg,0,none⟩) n rc := hf.off 7 rfl
          clear hK
          exact gives_pure (v := .slice (some ⟨rg,0,none⟩) n rc) hI (by simp [gives,go_sem,e0]) (.inr (.inr ⟨by decide,by decide,rfl⟩))
        case h8 =>
          refine OpIs.plain (by kernel_rfl) _ rfl rfl fun vs ev W hf hI hd => ?_
          have e0 : ev (.tmp 10) = .int .i64 i := hf.off 10 rfl
          clear hK
          exact gives_pure (v := .int .i64 i) hI (by simp [gives,go_sem,e0]) (.inr (.inr ⟨by decide,by decide,rfl⟩))
        case h9 =>
          refine OpIs.plain (by kernel_rfl) _ rfl rfl fun vs ev W hf hI hd => ?_
          have e0 : ev (.tmp 73) = .slice (some ⟨rg,0,none⟩) n rc := (hf.of 7 _ 73 rfl rfl rfl (of_decide_eq_true rfl)).trans ((hd 7 (by kernel_rfl)).val (by decide) (by decide))
          have e1 : ev (.tmp 74) = .int .i64 i := (hf.of 8 _ 74 rfl rfl rfl (of_decide_eq_true rfl)).trans ((hd 8 (by kernel_rfl)).val (by decide) (by decide))
          clear hK
          exact gives_pure (v := .pointer (some ⟨rg,i,none⟩)) hI (by simp [gives,go_sem,e0,e1,hi0,hi1]) (.inr (.inr ⟨by decide,by decide,rfl⟩))
        case h10 =>
          refine OpIs.plain (by kernel_rfl) _ rfl rfl fun vs ev W hf hI hd => ?_
          have e0 : ev (.tmp 75) = .pointer (some ⟨rg,i,none⟩) := (hf.of 9 _ 75 rfl rfl rfl (of_decide_eq_true rfl)).trans ((hd 9 (by kernel_rfl)).val (by decide) (by decide))
          have d0 := (HS.out W hI.2.2.2.2.1).2.2.2.1
          clear hK
          exact gives_pure (v := .slice rx rl0 ry) hI (by simp [gives,go_sem,e0,d0]) (.inr (.inr ⟨by decide,by decide,rfl⟩))
        case h11 =>
          refine OpIs.plain (by kernel_rfl) _ rfl rfl fun vs ev W hf hI hd => ?_
          have e0 : ev (.tmp 12) = .pointer (some ⟨zb,0,none⟩) := hf.off 12 rfl
          obtain ⟨d0,d1,d2,d3⟩ := box4 hI.2.2.2.1.box
          clear hK
          exact gives_pure (v := (rv ⟨b0,b1,b2,b3⟩)) hI (by simp [gives,go_sem,e0,d0,d1,d2,d3]) (.inr (.inr ⟨by decide,by decide,rfl⟩))
        case h12 =>
          refine OpIs.plain (by kernel_rfl) _ rfl rfl fun vs ev W hf hI hd => ?_
          have e0 : ev (.tmp 8) = .slice (some ⟨UO,0,none⟩) n n := hf.off 8 rfl
          clear hK
          exact gives_pure (v := .slice (some ⟨UO,0,none⟩) n n) hI (by simp [gives,go_sem,e0]) (.inr (.inr ⟨by decide,by decide,rfl⟩))
        case h13 =>
          refine OpIs.plain (by kernel_rfl) _ rfl rfl fun vs ev W hf hI hd => ?_
          have e0 : ev (.tmp 10) = .int .i64 i := hf.off 10 rfl
          clear hK
          exact gives_pure (v := .int .i64 i) hI (by simp [gives,go_sem,e0]) (.inr (.inr ⟨by decide,by decide,rfl⟩))
        case h14 =>
          refine OpIs.plain (by kernel_rfl) _ rfl rfl fun vs ev W hf hI hd => ?_
          have e0 : ev (.tmp 78) = .slice (some ⟨UO,0,none⟩) n n := (hf.of 12 _ 78 rfl rfl rfl (of_decide_eq_true rfl)).trans ((hd 12 (by kernel_rfl)).val (by decide) (by decide))
          have e1 : ev (.tmp 79) = .int .i64 i := (hf.of 13 _ 79 rfl rfl rfl (of_decide_eq_true rfl)).trans ((hd 13 (by kernel_rfl)).val (by decide) (by decide))
          clear hK
          exact gives_pure (v := .pointer (some ⟨UO,i,none⟩)) hI (by simp [gives,go_sem,e0,e1,hi0,hi1]) (.inr (.inr ⟨by decide,by decide,rfl⟩))
        case h15 =>
          refine OpIs.plain (by kernel_rfl) _ rfl rfl fun vs ev W hf hI hd => ?_
          have e0 : ev (.tmp 80) = .pointer (some ⟨UO,i,none⟩) := (hf.of 14 _ 80 rfl rfl rfl (of_decide_eq_true rfl)).trans ((hd 14 (by kernel_rfl)).val (by decide) (by decide))
          have d0 := (HS.out W hI.2.2.2.2.1).2.2.2.2.1
          clear hK
          exact gives_pure (v := .int .i64 ui) hI (by simp [gives,go_sem,e0,d0]) (.inr (.inr ⟨by decide,by decide,rfl⟩))
        case h16 =>
          refine OpIs.plain (by kernel_rfl) _ rfl rfl fun vs ev W hf hI hd => ?_
          have e0 : ev (.tmp 72) = .slice (some ⟨xg,0,none⟩) (k + 1) y := (hf.of 6 _ 72 rfl rfl rfl (of_decide_eq_true rfl)).trans ((hd 6 (by kernel_rfl)).val (by decide) (by decide))
          have e1 : ev (.tmp 76) = .slice rx rl0 ry := (hf.of 10 _ 76 rfl rfl rfl (of_decide_eq_true rfl)).trans ((hd 10 (by kernel_rfl)).val (by decide) (by decide))
          have e2 : ev (.tmp 77) = (rv ⟨b0,b1,b2,b3⟩) := (hf.of 11 _ 77 rfl rfl rfl (of_decide_eq_true rfl)).trans ((hd 11 (by kernel_rfl)).val (by decide) (by decide))
          have e3 : ev (.tmp 81) = .int .i64 ui := (hf.of 15 _ 81 rfl rfl rfl (of_decide_eq_true rfl)).trans ((hd 15 (by kernel_rfl)).val (by decide) (by decide))
          clear hK
          exact gives_pure (v := .agg #[.slice (some ⟨xg,0,none⟩) (k + 1) y,.slice rx rl0 ry,.int .i64 b0,.int .i64 b1,.int .i64 b2,.int .i64 b3,.int .i64 (-1),.int .i64 ui]) hI (by simp [gives,go_sem,e0,e1,e2,e3,hf.const]) (.inr (.inr ⟨by decide,by decide,rfl⟩))
        case h17 =>
          refine OpIs.plain (by kernel_rfl) _ rfl rfl fun vs ev W hf hI hd => ?_
          have e0 : ev (.tmp 82) = .agg #[.slice (some ⟨xg,0,none⟩) (k + 1) y,.slice rx rl0 ry,.int .i64 b0,.int .i64 b1,.int .i64 b2,.int .i64 b3,.int .i64 (-1),.int .i64 ui] := (hf.of 16 _ 82 rfl rfl rfl (of_decide_eq_true rfl)).trans ((hd 16 (by kernel_rfl)).val (by decide) (by decide))
          clear hK
          refine gives_mono (R := fun v w' => v = .slice (some ⟨W.heap.size,0,none⟩) 1 1 ∧ w' = W.alloc (.cells #[.slice (some ⟨xg,0,none⟩) (k + 1) y,.slice rx rl0 ry,.int .i64 b0,.int .i64 b1,.int .i64 b2,.int .i64 b3,.int .i64 (-1),.int .i64 ui] 37)) (by simp [gives,go_sem,e0]) ?_
          rintro _ _ ⟨rfl,rfl⟩
          have hb := below_alloc W (.cells #[.slice (some ⟨xg,0,none⟩) (k + 1) y,.slice rx rl0 ry,.int .i64 b0,.int .i64 b1,.int .i64 b2,.int .i64 b3,.int .i64 (-1),.int .i64 ui] 37)
          exact ⟨.inl ⟨rfl,_,rfl,hI.2.2.2.2.2,alloc_at W _⟩,⟨hI.1.call hb,owns_below hI.2.1 hb (Nat.le_refl _),hI.2.2.1.call hb,hI.2.2.2.1.call hb,hI.2.2.2.2.1.call (Nat.le_trans HN2.out.1 hI.2.2.2.2.2) hb,Nat.le_trans hI.2.2.2.2.2 hb.size⟩,fun j u _ h => h.below hb⟩
        case h18 =>
          refine OpIs.plain (by kernel_rfl) _ rfl rfl fun vs ev W hf hI hd => ?_
          have e0 : ev (.tmp 71) = pv := (hf.of 5 _ 71 rfl rfl rfl (of_decide_eq_true rfl)).trans ((hd 5 (by kernel_rfl)).val (by decide) (by decide))
          obtain ⟨gb,gb1,gb2,gb3⟩ := (hd 17 (by kernel_rfl)).newv (by decide)
          have e1 := (hf.of 17 _ 83 rfl rfl rfl (of_decide_eq_true rfl)).trans gb1
          obtain ⟨i3,hi3,hz0,hz1,hz2⟩ := info_parts infoPs
          have hpi0 := HPN.out.2
          obtain ⟨a',c',W',hr,ho,hold,hg⟩ := app_keep (P := Tryz.prog) 31 37 i3 (.agg #[.slice none 0 0,.slice none 0 0,.int .i64 0,.int .i64 0,.int .i64 0,.int .i64 0,.int .i64 0,.int .i64 0]) 8 96 Tryz.underlying31 hi3 hz0 hz1 hz2 rfl (by decide) pv pn (pcs pl) hI.2.1 ⟨gb,0,none⟩ 1 1 [.slice (some ⟨xg,0,none⟩) (k + 1) y,.slice rx rl0 ry,.int .i64 b0,.int .i64 b1,.int .i64 b2,.int .i64 b3,.int .i64 (-1),.int .i64 ui] rfl (news_at gb3) (by intro u hu; simp at hu; rcases hu with rfl | rfl | rfl | rfl | rfl | rfl | rfl | rfl <;> rfl) (by decide) (by unfold maxLen; omega) (by omega) (Nat.le_trans HN2.out.2.1 hI.2.2.2.2.2)
          have hbl := HBK.out
          obtain ⟨ra0,rc0,hrow⟩ := HPF.out
          have hI' := (⟨hI.1.appP hg (HPN.out.1 ▸ row_base hold HN2.out.2.2.1),hold,hI.2.2.1.grown hg (own_apartM hI.2.1 hI.2.2.1 (by decide)),hI.2.2.2.1.grown hg (own_apartM hI.2.1 hI.2.2.2.1 (by decide)),hI.2.2.2.2.1.grown (Nat.le_trans HN2.out.1 hI.2.2.2.2.2) hg (fun k hk => .inr (by have := (World.ownsRow.lt hI.2.1 k hk).1; rw [← HZH.out]; omega)),Nat.le_trans hI.2.2.2.2.2 hg.size⟩ : MS w0 M (.slice ga m gc) out ⟨fu,al,ro,da,rm⟩ pl pv Rc.zero 0 0 [] (.slice none 0 0) W' ∧ W'.ownsRow (zh + 1) 37 8 pv pn (pcs pl) ∧ TB W' zh (cl4 ⟨j0,j1,j2,j3⟩) 26 ∧ TB W' zb (cl4 ⟨b0,b1,b2,b3⟩) 26 ∧ Mid n1 W5 W' ∧ n2 ≤ W'.heap.size)
          clear hK
          refine gives_mono (R := fun v w' => v = .slice (some ⟨a',0,none⟩) (pn + 1) c' ∧ w' = W') (by unfold gives; rw [hrow] at hr e0; simp [execOp,resolve,invoke,builtin,e0,e1,hr,Result.andThen]) ?_
          rintro _ _ ⟨rfl,rfl⟩
          exact ⟨.inr (.inl ⟨rfl,_,_,rfl,ho⟩),hI',fun j u hj h => h.grow hj hg hbl⟩
        case h19 =>
          refine OpIs.plain (by kernel_rfl) _ rfl rfl fun vs ev W hf hI hd => ?_
          have e0 : ev (.tmp 66) = .pointer (some ⟨M,0,none⟩) := (hf.of 0 _ 66 rfl rfl rfl (of_decide_eq_true rfl)).trans ((hd 0 (by kernel_rfl)).val (by decide) (by decide))
          clear hK
          exact gives_pure (v := .pointer (some ⟨M,0,none⟩)) hI (by simp [gives,go_sem,e0]) (.inr (.inr ⟨by decide,by decide,rfl⟩))
        case h20 =>
          refine OpIs.plain (by kernel_rfl) _ rfl rfl fun vs ev W hf hI hd => ?_
          have e0 : ev (.tmp 85) = .pointer (some ⟨M,0,none⟩) := (hf.of 19 _ 85 rfl rfl rfl (of_decide_eq_true rfl)).trans ((hd 19 (by kernel_rfl)).val (by decide) (by decide))
          clear hK
          exact gives_pure (v := .pointer (some ⟨M,7,none⟩)) hI (by simp [gives,go_sem,e0]) (.inr (.inr ⟨by decide,by decide,rfl⟩))
        case h21 =>
          refine OpIs.plain (by kernel_rfl) _ rfl rfl fun vs ev W hf hI hd => ?_
          have e0 : ev (.tmp 86) = .pointer (some ⟨M,7,none⟩) := (hf.of 20 _ 86 rfl rfl rfl (of_decide_eq_true rfl)).trans ((hd 20 (by kernel_rfl)).val (by decide) (by decide))
          clear hK
          exact gives_pure (v := .pointer (some ⟨M,7,none⟩)) hI (by simp [gives,go_sem,e0]) (.inr (.inr ⟨by decide,by decide,rfl⟩))
      case hlast =>
        intro vs W hI hT
        obtain ⟨gp,ca,r1,r2⟩ := (hT 18 (by decide)).row (by decide)
        rw [r1] at r2
        have t21 := (hT 21 (by decide)).val (by decide) (by decide)
        refine last_plain (by kernel_rfl) rfl fun F ev hF hf => ?_
        have e1 := (hf.of 18 _ 84 rfl rfl rfl (of_decide_eq_true rfl)).trans r1
        have e2 : ev (.tmp 87) = .pointer (some ⟨M,7,none⟩) := (hf.of 21 _ 87 rfl rfl rfl (of_decide_eq_true rfl)).trans t21
        have c7 := hI.1.box.cell 7 rfl
        have f7 := hI.1.box.frozen 7
        have HR : Hid (BI w0 M (.slice ga m gc) out ⟨fu,al,ro,da,rm⟩ W5 n1 raw (i + 1) (W.setCell ⟨M,7,none⟩ (.slice (some ⟨gp,0,none⟩) (pn + 1) ca))) := by
          have hs := HS.out W hI.2.2.2.2.1
          have hpc : pcs (pl ++ [((.slice (some ⟨xg,0,none⟩) (k + 1) y : Value),(.slice rx rl0 ry : Value),(⟨g,rd,⟨b0,b1,b2,b3⟩,-1,ui⟩ : Ps))]) = pcs pl ++ [.slice (some ⟨xg,0,none⟩) (k + 1) y,.slice rx rl0 ry,.int .i64 b0,.int .i64 b1,.int .i64 b2,.int .i64 b3,.int .i64 (-1),.int .i64 ui] := by rw [pcs_app]; rfl
          have hlen : (pl ++ [((.slice (some ⟨xg,0,none⟩) (k + 1) y : Value),(.slice rx rl0 ry : Value),(⟨g,rd,⟨b0,b1,b2,b3⟩,-1,ui⟩ : Ps))]).length = pn + 1 := by rw [List.length_append,HPN.out.1]; rfl
          have hM1 := HMn.out
          have hM2 : M < zh := by have := H5.out.2.1; rw [← HZH.out] at this; omega
          refine ⟨pl ++ [(.slice (some ⟨xg,0,none⟩) (k + 1) y,.slice rx rl0 ry,⟨g,rd,⟨b0,b1,b2,b3⟩,-1,ui⟩)],_,?_,hI.1.putPv (by rw [hpc,hlen]; exact row_base r2 HN2.out.2.2.1) (fun x hx => ?_),?_,?_,hI.2.2.2.2.1.set (.inl hM1) _,?_⟩
          · rw [HRI.out,← HPS.out]
            simp [psl]
          · rcases List.mem_append.1 hx with h | h
            · exact hI.1.pi x h
            · rw [List.mem_singleton.1 h]
              exact ⟨OwnP.mono hs.2.2.2.2.2.1 HN2.out.2.2.2,OwnP.mono hs.2.2.2.2.2.2 HN2.out.2.2.2⟩
          · rw [hpc,hlen,← HZH.out]
            exact owns_set r2 (Nat.lt_succ_of_lt hM2) _
          · rw [HHU.out,← HZH.out]
            exact hI.2.2.1.set (by dsimp only; omega) _
          · have := HN2.out.2.1
            have h3 := hI.2.2.2.2.2
            rw [← HZH.out]
            simp only [World.setCell,Array.size_modify]
            omega
        refine gives_mono (R := fun v w' => v = undef ∧ w' = W.setCell ⟨M,7,none⟩ (.slice (some ⟨gp,0,none⟩) (pn + 1) ca)) (by simp [gives,go_sem,e1,e2,c7,f7]) ?_
        rintro _ _ ⟨rfl,rfl⟩
        subst hF
        simp [fr,Act.put,r1,t21]
        generalize vs 0 = u0 at *
        generalize vs 1 = u1 at *
        generalize vs 2 = u2 at *
        generalize vs 3 = u3 at *
        generalize vs 4 = u4 at *
        generalize vs 5 = u5 at *
        generalize vs 6 = u6 at *
        generalize vs 7 = u7 at *
        generalize vs 8 = u8 at *
        generalize vs 9 = u9 at *
        generalize vs 10 = u10 at *
        generalize vs 11 = u11 at *
        generalize vs 12 = u12 at *
        generalize vs 13 = u13 at *
        generalize vs 14 = u14 at *
        generalize vs 15 = u15 at *
        generalize vs 16 = u16 at *
        generalize vs 17 = u17 at *
        generalize vs 18 = u18 at *
        generalize vs 19 = u19 at *
        generalize vs 20 = u20 at *
        generalize vs 21 = u21 at *
        clear hT hf t21 e1 e2 r1 r2
        refine hK _ _ ?_
        clear hK c7 f7 hI
        generalize W.setCell ⟨M,7,none⟩ (.slice (some ⟨gp,0,none⟩) (pn + 1) ca) = W10 at *
        clear W
        go_wp2_with fail
        go_roundw
        case rel => exact ⟨i + 1,by omega,by go_num,HR.out⟩
        case measure => simp [intOf]; omega
    · have ei : i = n := by omega
      rw [ei] at hbi
      obtain ⟨pl,pv,hps,hm,hr,hh,hmid,hsz⟩ := hbi
      have hraw := HRAW.out.2.1
      rw [← hraw,List.take_length] at hps hh
      have hpl : pl.length = n := by rw [← psl_len,hps,hraw]
      have hn0 : 0 < n := by
        rw [HN.out,HG0.out]
        obtain ⟨r,hr,_⟩ := hgd.toGood.has_out (on := fu)
        omega
      obtain ⟨pg,pcap,_,_,_,_,hpv,_⟩ := hm.prs.at (i := 0) (by omega) rfl
      rw [hpl] at hpv
      obtain ⟨hu,hhu⟩ : ∃ h,h = hullN (raw.map (·.box)) := ⟨_,rfl⟩
      rw [← hhu] at hh
      have HHU : Hid (hu = hullO nds out fu ⟨x0,y0,x1,y1⟩) := by
        have : hu = hullO nds out fu ⟨x0,y0,x1,y1⟩ := by rw [hhu,HRAW.out.1]; rfl
        exact this
      have HPG : Hid (zh + 1 ≤ pg) := by
        have : zh + 1 ≤ pg := by rw [HZH.out]; exact (World.ownsRow.lt hr pg (by rw [hpv]; rfl)).1
        exact this
      have HX : Hid (psl pl = raw ∧ MS w0 M (.slice ga m gc) out ⟨fu,al,ro,da,rm⟩ pl pv Rc.zero 0 0 [] (.slice none 0 0) wr ∧ TB wr zh (cl4 hu) 26 ∧ Mid n1 W5 wr ∧ zh + 1 ≤ wr.heap.size) := by
        rw [HZH.out]
        exact ⟨hps,hm,hh,hmid,hsz⟩
      obtain ⟨q0,q1,q2,q3⟩ := box4 (Box.mid H5.out.2.2.2.2.2.1 hmid H5.out.2.2.2.2.2.2.1)
      have m0 := hm.box.cell 8 rfl
      have m1 := hm.box.cell 9 rfl
      have m2 := hm.box.cell 10 rfl
      have m3 := hm.box.cell 11 rfl
      have f0 := hm.box.frozen 8
      have f1 := hm.box.frozen 9
      have f2 := hm.box.frozen 10
      have f3 := hm.box.frozen 11
      obtain ⟨t0,t1,t2,t3⟩ := t
      dsimp only at q0 q1 q2 q3
      have HX2 : Hid (psl pl = raw ∧ MS w0 M (.slice ga m gc) out ⟨fu,al,ro,da,rm⟩ pl pv ⟨t0,t1,t2,t3⟩ 0 0 [] (.slice none 0 0) ((((wr.setCell ⟨M,8,none⟩ (.int .i64 t0)).setCell ⟨M,9,none⟩ (.int .i64 t1)).setCell ⟨M,10,none⟩ (.int .i64 t2)).setCell ⟨M,11,none⟩ (.int .i64 t3)) ∧ TB ((((wr.setCell ⟨M,8,none⟩ (.int .i64 t0)).setCell ⟨M,9,none⟩ (.int .i64 t1)).setCell ⟨M,10,none⟩ (.int .i64 t2)).setCell ⟨M,11,none⟩ (.int .i64 t3)) zh (cl4 hu) 26 ∧ Mid n1 W5 ((((wr.setCell ⟨M,8,none⟩ (.int .i64 t0)).setCell ⟨M,9,none⟩ (.int .i64 t1)).setCell ⟨M,10,none⟩ (.int .i64 t2)).setCell ⟨M,11,none⟩ (.int .i64 t3)) ∧ zh + 1 ≤ ((((wr.setCell ⟨M,8,none⟩ (.int .i64 t0)).setCell ⟨M,9,none⟩ (.int .i64 t1)).setCell ⟨M,10,none⟩ (.int .i64 t2)).setCell ⟨M,11,none⟩ (.int .i64 t3)).heap.size) := by
        obtain ⟨g1,g2,g3,g4,g5⟩ := HX.out
        have hM1 : M < n1 ∨ W5.heap.size ≤ M := .inl HMn.out
        have hM2 : zh ≠ M := by have := H5.out.2.1; rw [← HZH.out] at this; have := HMn.out; omega
        exact ⟨g1,g2.putSrc ⟨t0,t1,t2,t3⟩,(((g3.set hM2 _).set hM2 _).set hM2 _).set hM2 _,(((g4.set hM1 _).set hM1 _).set hM1 _).set hM1 _,by simpa using g5⟩
      have HRL : Hid (raw.length = n ∧ pl.length = n ∧ pv = .slice (some ⟨pg,0,none⟩) n pcap) := ⟨hraw,hpl,hpv⟩
      clear hps hm hh hmid hsz hr hraw hpl hhu hpv HX
      have c4 := HX2.out.2.1.box.cell 4 rfl
      have c7 := HX2.out.2.1.box.cell 7 rfl
      rw [HRL.out.2.2] at c7
      cases ro with
      | true =>
        have HE : Hid (raw = pss nds out ⟨fu,al,true,da,rm⟩ ⟨x0,y0,x1,y1⟩ ∧ (⟨t0,t1,t2,t3⟩ : Rc) = srcO nds out ⟨fu,al,true,da,rm⟩ ⟨x0,y0,x1,y1⟩) := by
          have : raw = pss nds out ⟨fu,al,true,da,rm⟩ ⟨x0,y0,x1,y1⟩ ∧ (⟨t0,t1,t2,t3⟩ : Rc) = srcO nds out ⟨fu,al,true,da,rm⟩ ⟨x0,y0,x1,y1⟩ := by
            unfold pss srcO
            rw [if_pos rfl,if_pos (.inl rfl),← HST.out.1]
            exact ⟨HRAW.out.1,rfl⟩
          exact this
        go_wp2_with fail
        first | go_end0 | refine bodyPost_ret (results_none rfl _ _ _) rfl ?_
        exact ⟨rfl,pl,pv,by rw [← HE.out.1]; exact HX2.out.1,by rw [← HE.out.2]; exact HX2.out.2.1⟩
      | false =>
        go_wp2_with fail
        generalize ((((wr.setCell ⟨M,8,none⟩ (.int .i64 t0)).setCell ⟨M,9,none⟩ (.int .i64 t1)).setCell ⟨M,10,none⟩ (.int .i64 t2)).setCell ⟨M,11,none⟩ (.int .i64 t3)) = W11 at *
        clear q0 q1 q2 q3 m0 m1 m2 m3 f0 f1 f2 f3 c4 c7
        have HB0 : Hid (BJ w0 M (.slice ga m gc) out ⟨fu,al,false,da,rm⟩ W5 n1 pv ⟨t0,t1,t2,t3⟩ hu raw 0 W11) := by
          have h := HX2.out
          rw [HZH.out] at h
          exact ⟨pl,by rw [widJ_zero]; exact h.1,h.2.1,h.2.2.1,h.2.2.2.1,h.2.2.2.2⟩
        go_loopw [13,14,105] (fun _ _ iv W => ∃ i : Nat,i ≤ n ∧ iv = .int .i64 i ∧ BJ w0 M (.slice ga m gc) out ⟨fu,al,false,da,rm⟩ W5 n1 pv ⟨t0,t1,t2,t3⟩ hu raw i W) (fun _ _ iv _ => n - (intOf iv).toNat)
        case atStart => exact ⟨0,Nat.zero_le _,rfl,HB0.out⟩
        case round =>
          obtain ⟨i,hi3,rfl,hbi⟩ := hrel
          clear HB0 HX2
          obtain ⟨pl2,hps,hm,hh,hmid,hsz⟩ := hbi
          rw [← HZH.out] at hh hsz
          by_cases hil : i < n
          · have hpl : pl2.length = n := by rw [← psl_len,hps,widJ_len]; exact HRL.out.1
            obtain ⟨y,hy⟩ : ∃ y,y = (psl pl2).getD i Ps.none := ⟨_,rfl⟩
            obtain ⟨⟨sv1,sv2,y'⟩,hx⟩ : ∃ x,pl2[i]? = some x := ⟨_,List.getElem?_eq_getElem (by omega)⟩
            have hyy : y = y' := by rw [hy]; unfold psl; simp [hx]
            subst hyy
            have hyr : raw.getD i Ps.none = y := by rw [hy,hps,widJ_get _ _ (by rw [HRL.out.1]; exact hil)]
            obtain ⟨g',cap',na,nc,ra',rc',hpv,_,hpgl,hmx,hfz,hpc,_,_⟩ := hm.prs.at (i := i) (by omega) hy
            rw [HRL.out.2.2] at hpv
            simp only [Value.slice.injEq,Option.some.injEq,Addr.mk.injEq,and_true] at hpv
            obtain ⟨rfl,hq1,hq2⟩ := hpv
            clear hq1 hq2
            obtain ⟨_,_,p2,p3,p4,p5,_,_⟩ := hpc
            have c7 := hm.box.cell 7 rfl
            rw [HRL.out.2.2] at c7
            have HX : Hid (psl pl2 = widJ hu raw i ∧ MS w0 M (.slice ga m gc) out ⟨fu,al,false,da,rm⟩ pl2 (.slice (some ⟨pg,0,none⟩) n pcap) ⟨t0,t1,t2,t3⟩ 0 0 [] (.slice none 0 0) wr ∧ TB wr zh (cl4 hu) 26 ∧ Mid n1 W5 wr ∧ zh + 1 ≤ wr.heap.size ∧ pl2[i]? = some (sv1,sv2,y)) := by
              rw [HRL.out.2.2] at hm
              exact ⟨hps,hm,hh,hmid,hsz,hx⟩
            have HY : Hid (raw.getD i Ps.none = y ∧ i < raw.length ∧ pl2.length = n) := ⟨hyr,by rw [HRL.out.1]; exact hil,hpl⟩
            have HFZ : Hid ((∀ W,Below wr.heap.size wr W → ∀ k,W.frozen? ⟨pg,k,none⟩ = false) ∧ ∀ W,Below wr.heap.size wr W → W.cell? ⟨pg,i * 8 + 2,none⟩ = some (.int .i64 y.box.x0) ∧ W.cell? ⟨pg,i * 8 + 3,none⟩ = some (.int .i64 y.box.y0) ∧ W.cell? ⟨pg,i * 8 + 4,none⟩ = some (.int .i64 y.box.x1) ∧ W.cell? ⟨pg,i * 8 + 5,none⟩ = some (.int .i64 y.box.y1)) := ⟨fun W hW k => (hW.frozen hpgl).trans (hfz k),fun W hW => ⟨(hW.cell hpgl).trans p2,(hW.cell hpgl).trans p3,(hW.cell hpgl).trans p4,(hW.cell hpgl).trans p5⟩⟩
            obtain ⟨ns,rs,⟨b0,b1,b2,b3⟩,so,lo⟩ := y
            dsimp only at p2 p3 p4 p5
            unfold maxLen at hmx
            rw [hpl] at hmx
            have hi0 : (0 : Int) ≤ (i : Int) := by omega
            have hi1 : (i : Int) < (n : Int) := by omega
            have hemp := empty_c b0 b1 b2 b3
            obtain ⟨eb,heb⟩ : ∃ e,e = Rc.emp ⟨b0,b1,b2,b3⟩ := ⟨_,rfl⟩
            have HEB : Hid (Rc.emp ⟨b0,b1,b2,b3⟩ = eb) := heb.symm
            rw [← heb] at hemp
            clear hps hm hh hmid hsz hx hyr hpl hpgl hfz heb hy
            cases eb with
            | true =>
              go_wp2_with fail
              refine (hemp wr).mono ?_; rintro e w7 ⟨rfl,hb7⟩
              have HE : Hid (BJ w0 M (.slice ga m gc) out ⟨fu,al,false,da,rm⟩ W5 n1 pv ⟨t0,t1,t2,t3⟩ hu raw (i + 1) w7) := by
                obtain ⟨g1,g2,g3,g4,g5,g6⟩ := HX.out
                have hw := wide_same hu raw HY.out.2.1 (by rw [HY.out.1]; exact HEB.out)
                have : BJ w0 M (.slice ga m gc) out ⟨fu,al,false,da,rm⟩ W5 n1 pv ⟨t0,t1,t2,t3⟩ hu raw (i + 1) w7 := by
                  rw [HRL.out.2.2]
                  refine ⟨pl2,by rw [hw]; exact g1,g2.call hb7,by rw [← HZH.out]; exact g3.call hb7,g4.call (by rw [← HZH.out]; omega) hb7,by rw [← HZH.out]; exact Nat.le_trans g5 hb7.size⟩
                exact this
              clear p2 p3 p4 p5 c7 hemp HX HFZ hb7
              go_wp2_with fail
              go_roundw
              case rel => exact ⟨i + 1,by omega,by go_num,HE.out⟩
              case measure => simp [intOf]; omega
            | false =>
              go_wp2_with fail
              refine (hemp wr).mono ?_; rintro e w7 ⟨rfl,hb7⟩
              obtain ⟨hx0,hx1,hx2,hx3⟩ := hu
              have HX7 : Hid (psl pl2 = widJ ⟨hx0,hx1,hx2,hx3⟩ raw i ∧ MS w0 M (.slice ga m gc) out ⟨fu,al,false,da,rm⟩ pl2 (.slice (some ⟨pg,0,none⟩) n pcap) ⟨t0,t1,t2,t3⟩ 0 0 [] (.slice none 0 0) w7 ∧ TB w7 zh (cl4 ⟨hx0,hx1,hx2,hx3⟩) 26 ∧ Mid n1 W5 w7 ∧ zh + 1 ≤ w7.heap.size ∧ pl2[i]? = some (sv1,sv2,⟨ns,rs,⟨b0,b1,b2,b3⟩,so,lo⟩)) := by
                obtain ⟨g1,g2,g3,g4,g5,g6⟩ := HX.out
                exact ⟨g1,g2.call hb7,g3.call hb7,g4.call (by rw [← HZH.out]; omega) hb7,Nat.le_trans g5 hb7.size,g6⟩
              clear p2 p3 p4 p5 c7 hemp HX
              obtain ⟨p2,p3,p4,p5⟩ := HFZ.out.2 w7 hb7
              have f2 := HFZ.out.1 w7 hb7 (i * 8 + 2)
              have f3 := HFZ.out.1 w7 hb7 (i * 8 + 3)
              have f4 := HFZ.out.1 w7 hb7 (i * 8 + 4)
              have f5 := HFZ.out.1 w7 hb7 (i * 8 + 5)
              obtain ⟨q0,q1,q2,q3⟩ := box4 HX7.out.2.2.1.box
              have HE : Hid (BJ w0 M (.slice ga m gc) out ⟨fu,al,false,da,rm⟩ W5 n1 pv ⟨t0,t1,t2,t3⟩ ⟨hx0,hx1,hx2,hx3⟩ raw (i + 1) ((((w7.setCell ⟨pg,i * 8 + 2,none⟩ (.int .i64 hx0)).setCell ⟨pg,i * 8 + 3,none⟩ (.int .i64 hx1)).setCell ⟨pg,i * 8 + 4,none⟩ (.int .i64 hx2)).setCell ⟨pg,i * 8 + 5,none⟩ (.int .i64 hx3))) := by
                obtain ⟨g1,g2,g3,g4,g5,g6⟩ := HX7.out
                have hw := wide_set ⟨hx0,hx1,hx2,hx3⟩ raw HY.out.2.1 (by rw [HY.out.1]; exact HEB.out)
                rw [HY.out.1,← g1] at hw
                have hpg := HPG.out
                have hne : zh ≠ pg := by omega
                have hmi : pg < n1 ∨ W5.heap.size ≤ pg := .inr (by rw [← HZH.out]; omega)
                have : BJ w0 M (.slice ga m gc) out ⟨fu,al,false,da,rm⟩ W5 n1 pv ⟨t0,t1,t2,t3⟩ ⟨hx0,hx1,hx2,hx3⟩ raw (i + 1) ((((w7.setCell ⟨pg,i * 8 + 2,none⟩ (.int .i64 hx0)).setCell ⟨pg,i * 8 + 3,none⟩ (.int .i64 hx1)).setCell ⟨pg,i * 8 + 4,none⟩ (.int .i64 hx2)).setCell ⟨pg,i * 8 + 5,none⟩ (.int .i64 hx3)) := by
                  rw [HRL.out.2.2]
                  refine ⟨pl2.set i (sv1,sv2,⟨ns,rs,⟨hx0,hx1,hx2,hx3⟩,so,lo⟩),by rw [hw,psl_set],g2.setBox g6 ⟨hx0,hx1,hx2,hx3⟩,by rw [← HZH.out]; exact (((g3.set hne _).set hne _).set hne _).set hne _,(((g4.set hmi _).set hmi _).set hmi _).set hmi _,by rw [← HZH.out]; simpa using g5⟩
                exact this
              clear HX7 HFZ hb7
              go_wp2_with fail
              go_roundw
              case rel => exact ⟨i + 1,by omega,by go_num,HE.out⟩
              case measure => simp [intOf]; omega
          · have ei : i = n := by omega
            rw [ei,← HRL.out.1,widJ_all] at hps
            have HEM : Hid (Rc.emp ⟨t0,t1,t2,t3⟩ = Rc.emp ⟨t0,t1,t2,t3⟩) := rfl
            have hemp := empty_c t0 t1 t2 t3
            obtain ⟨eb,heb⟩ : ∃ e,e = Rc.emp ⟨t0,t1,t2,t3⟩ := ⟨_,rfl⟩
            have HEB : Hid (Rc.emp ⟨t0,t1,t2,t3⟩ = eb) := heb.symm
            rw [← heb] at hemp
            obtain ⟨q0,q1,q2,q3⟩ := box4 (Box.mid H5.out.2.2.2.2.2.1 hmid H5.out.2.2.2.2.2.2.1)
            dsimp only at q0 q1 q2 q3
            have HPS : Hid (psl pl2 = pss nds out ⟨fu,al,false,da,rm⟩ ⟨x0,y0,x1,y1⟩) := by
              have : psl pl2 = pss nds out ⟨fu,al,false,da,rm⟩ ⟨x0,y0,x1,y1⟩ := by
                rw [hps,HHU.out,HRAW.out.1]
                unfold pss
                rw [if_neg (by simp)]
              exact this
            have HX : Hid (MS w0 M (.slice ga m gc) out ⟨fu,al,false,da,rm⟩ pl2 pv ⟨t0,t1,t2,t3⟩ 0 0 [] (.slice none 0 0) wr ∧ TB wr zh (cl4 hu) 26 ∧ Mid n1 W5 wr ∧ zh + 1 ≤ wr.heap.size) := ⟨hm,hh,hmid,hsz⟩
            clear hps hm hh hmid hsz heb
            cases eb with
            | true =>
              have HE : Hid ((⟨t0,t1,t2,t3⟩ : Rc) = srcO nds out ⟨fu,al,false,da,rm⟩ ⟨x0,y0,x1,y1⟩) := by
                have : (⟨t0,t1,t2,t3⟩ : Rc) = srcO nds out ⟨fu,al,false,da,rm⟩ ⟨x0,y0,x1,y1⟩ := by
                  unfold srcO
                  rw [← HST.out.1,if_pos (.inr HEB.out)]
                exact this
              go_wp2_with fail
              refine (hemp wr).mono ?_; rintro e w7 ⟨rfl,hb7⟩
              have HM7 : Hid (MS w0 M (.slice ga m gc) out ⟨fu,al,false,da,rm⟩ pl2 pv ⟨t0,t1,t2,t3⟩ 0 0 [] (.slice none 0 0) w7) := HX.out.1.call hb7
              clear hemp HX hb7 q0 q1 q2 q3
              go_wp2_with fail
              first | go_end0 | refine bodyPost_ret (results_none rfl _ _ _) rfl ?_
              exact ⟨rfl,pl2,pv,HPS.out,by rw [← HE.out]; exact HM7.out⟩
            | false =>
              have HE : Hid (joinR ⟨t0,t1,t2,t3⟩ hu = srcO nds out ⟨fu,al,false,da,rm⟩ ⟨x0,y0,x1,y1⟩) := by
                have : joinR ⟨t0,t1,t2,t3⟩ hu = srcO nds out ⟨fu,al,false,da,rm⟩ ⟨x0,y0,x1,y1⟩ := by
                  unfold srcO
                  rw [← HST.out.1,if_neg (by rw [HEB.out]; simp),HHU.out]
                exact this
              obtain ⟨hx0,hx1,hx2,hx3⟩ := hu
              go_wp2_with fail
              refine (hemp wr).mono ?_; rintro e w7 ⟨rfl,hb7⟩
              have HX7 : Hid (MS w0 M (.slice ga m gc) out ⟨fu,al,false,da,rm⟩ pl2 pv ⟨t0,t1,t2,t3⟩ 0 0 [] (.slice none 0 0) w7 ∧ TB w7 zh (cl4 ⟨hx0,hx1,hx2,hx3⟩) 26 ∧ Mid n1 W5 w7) := by
                obtain ⟨g1,g2,g3,g4⟩ := HX.out
                exact ⟨g1.call hb7,g2.call hb7,g3.call (by rw [← HZH.out]; omega) hb7⟩
              clear q0 q1 q2 q3 hemp HX hb7
              obtain ⟨q0,q1,q2,q3⟩ := box4 (Box.mid H5.out.2.2.2.2.2.1 HX7.out.2.2 H5.out.2.2.2.2.2.2.1)
              dsimp only at q0 q1 q2 q3
              obtain ⟨p0,p1,p2,p3⟩ := box4 HX7.out.2.1.box
              go_wp2_with fail
              refine (join_c ⟨t0,t1,t2,t3⟩ ⟨hx0,hx1,hx2,hx3⟩ w7).mono ?_; rintro e w8 ⟨rfl,hb8⟩
              obtain ⟨⟨j0,j1,j2,j3⟩,hj⟩ : ∃ j,j = joinR ⟨t0,t1,t2,t3⟩ ⟨hx0,hx1,hx2,hx3⟩ := ⟨_,rfl⟩
              rw [← hj] at HE ⊢
              have hm8 := HX7.out.1.call hb8
              have m0 := hm8.box.cell 8 rfl
              have m1 := hm8.box.cell 9 rfl
              have m2 := hm8.box.cell 10 rfl
              have m3 := hm8.box.cell 11 rfl
              have f0 := hm8.box.frozen 8
              have f1 := hm8.box.frozen 9
              have f2 := hm8.box.frozen 10
              have f3 := hm8.box.frozen 11
              have HM9 := hm8.putSrc ⟨j0,j1,j2,j3⟩
              have HM9 : Hid _ := HM9
              clear q0 q1 q2 q3 p0 p1 p2 p3 HX7 hb8 hj hm8
              go_wp2_with fail
              first | go_end0 | refine bodyPost_ret (results_none rfl _ _ _) rfl ?_
              exact ⟨rfl,pl2,pv,HPS.out,by rw [← HE.out]; exact HM9.out⟩
end Go.Proofs.YtaoamkbcegadcaaGreatDoor
