/- Texts joined: XYg. -/
import Derived.Test.YtaoamkbcegadcaaGreatDoorYf
import Derived.Test.YtaoamkbcegadcaaGreatDoorKp
set_option maxRecDepth 4000
/- Layer 19: where a pass is done: inPlace, find. (Printed by mk_yg.py.) -/
namespace Go.Proofs.YtaoamkbcegadcaaGreatDoor
open Go.RowKit Go.Bx Go.Od Go.Hp
attribute [local go_sem ↓] Go.wp_at_zero Go.wp_at_succ
set_option linter.unusedVariables false

theorem infoSlot : (Tryz.prog.info? 73).map (fun i => (i.zero,i.size,i.bytes)) = some (some (.agg #[.int .i64 0,.int .i64 0]),2,16) := by kernel_rfl
theorem infoPs : (Tryz.prog.info? 37).map (fun i => (i.zero,i.size,i.bytes)) = some (some (.agg #[.slice none 0 0,.slice none 0 0,.int .i64 0,.int .i64 0,.int .i64 0,.int .i64 0,.int .i64 0,.int .i64 0]),8,96) := by kernel_rfl
section
variable {w0 : World} {M : Nat} {nv pv sv : Value} {out : Int} {c : Cf} {pl : List (Value × Value × Ps)} {src : Rc} {sn pk : Int} {sl : List (Int × Int)} {W W' : World}
theorem kept_of {W W' : World} {B1 s1 n1 B2 s2 n2 : Nat} {e1 e2 : TypeId} {v1 v2 : Value} {x1 x2 : List Value} (h : W.ownsRow B1 e1 s1 v1 n1 x1) (h2 : W.ownsRow B2 e2 s2 v2 n2 x2) (hg : W.grownBy W' v2.ownBlock) (he : e1 ≠ e2) : W'.ownsRow B1 e1 s1 v1 n1 x1 := World.ownsRow.kept h hg (by
  cases e1 : v1.ownBlock with
  | none => exact .inl rfl
  | some j => exact .inr fun e2 => rows_apart h h2 he e1 e2.symm)
theorem MS.app (h : MS w0 M nv out c pl pv src sn pk sl sv W) (hg : W.grownBy W' sv.ownBlock) (hold : W'.ownsRow w0.heap.size 73 2 sv sl.length (scs sl)) : MS w0 M nv out c pl pv src sn pk sl sv W' :=
  ⟨(hg.block M h.lt (fun e => own_apartM h.sr h.hm (by decide) e.symm)).trans h.hm,h.hM,kept_of h.pr h.sr hg (by decide),fun x hx => ⟨kept_of (h.pi x hx).1 h.sr hg (by decide),kept_of (h.pi x hx).2 h.sr hg (by decide)⟩,hold,below_grown h.below hg h.sr (Nat.le_refl _) h.below.size⟩
theorem MS.appP (h : MS w0 M nv out c pl pv src sn pk sl sv W) (hg : W.grownBy W' pv.ownBlock) (hold : W'.ownsRow w0.heap.size 37 8 pv pl.length (pcs pl)) : MS w0 M nv out c pl pv src sn pk sl sv W' :=
  ⟨(hg.block M h.lt (fun e => own_apartM h.pr h.hm (by decide) e.symm)).trans h.hm,h.hM,hold,fun x hx => ⟨kept_of (h.pi x hx).1 h.pr hg (by decide),kept_of (h.pi x hx).2 h.pr hg (by decide)⟩,kept_of h.sr h.pr hg (by decide),below_grown h.below hg h.pr (Nat.le_refl _) h.below.size⟩
theorem MS.putSl (h : MS w0 M nv out c pl pv src sn pk sl sv W) {sv' : Value} {sl' : List (Int × Int)} (hn : W.ownsRow w0.heap.size 73 2 sv' sl'.length (scs sl')) : MS w0 M nv out c pl pv src sn pk sl' sv' (W.setCell ⟨M,14,none⟩ sv') := by
  have k1 : ∀ {B s n : Nat} {e : TypeId} {v : Value} {xs : List Value},W.ownsRow B e s v n xs → 51 ≠ e → (W.setCell ⟨M,14,none⟩ sv').ownsRow B e s v n xs := fun hr ht => row_keep hr (own_apartM hr h.hm ht) sv'
  refine ⟨?_,h.hM,k1 h.pr (by decide),fun x hx => ⟨k1 (h.pi x hx).1 (by decide),k1 (h.pi x hx).2 (by decide)⟩,k1 hn (by decide),h.below.setCell (by exact h.hM) _⟩
  have h2 : (W.setCell ⟨M,14,none⟩ sv').heap[M]? = some (.cells ((mcl nv out c pv src sn pk sv).toArray.setIfInBounds 14 sv') 51 (0,0)) := by
    simp [World.setCell,Array.getElem?_modify,h.hm]
  rw [h2]
  simp [mcl]
theorem MS.putPv (h : MS w0 M nv out c pl pv src sn pk sl sv W) {pv' : Value} {pl' : List (Value × Value × Ps)} (hn : W.ownsRow w0.heap.size 37 8 pv' pl'.length (pcs pl')) (hi : ∀ x ∈ pl',OwnP W w0.heap.size x.1 (ofN x.2.2.nodes) ∧ OwnP W w0.heap.size x.2.1 x.2.2.reads) : MS w0 M nv out c pl' pv' src sn pk sl sv (W.setCell ⟨M,7,none⟩ pv') := by
  have k1 : ∀ {B s n : Nat} {e : TypeId} {v : Value} {xs : List Value},W.ownsRow B e s v n xs → 51 ≠ e → (W.setCell ⟨M,7,none⟩ pv').ownsRow B e s v n xs := fun hr ht => row_keep hr (own_apartM hr h.hm ht) pv'
  refine ⟨?_,h.hM,k1 hn (by decide),fun x hx => ⟨k1 (hi x hx).1 (by decide),k1 (hi x hx).2 (by decide)⟩,k1 h.sr (by decide),h.below.setCell (by exact h.hM) _⟩
  have h2 : (W.setCell ⟨M,7,none⟩ pv').heap[M]? = some (.cells ((mcl nv out c pv src sn pk sv).toArray.setIfInBounds 7 pv') 51 (0,0)) := by
    simp [World.setCell,Array.getElem?_modify,h.hm]
  rw [h2]
  simp [mcl]
end
def ApT (vals : List Value) (kb ka n2 : Nat) (news : List Value) (et : TypeId) (B size cnt : Nat) (cells : List Value) (i : Nat) (v : Value) (W : World) : Prop :=
  (i = kb ∧ ∃ g,v = .slice (some ⟨g,0,none⟩) 1 1 ∧ n2 ≤ g ∧ W.heap[g]? = some (.cells news.toArray et (0,0))) ∨ (i = ka ∧ ∃ g c,v = .slice (some ⟨g,0,none⟩) (cnt + 1) c ∧ W.ownsRow B et size v (cnt + 1) (cells ++ news)) ∨ (i ≠ kb ∧ i ≠ ka ∧ v = vals.getD i undef)
section
variable {vals : List Value} {kb ka n2 : Nat} {news : List Value} {et : TypeId} {B size cnt : Nat} {cells : List Value} {v : Value} {W W' : World}
theorem ApT.val {i : Nat} (h : ApT vals kb ka n2 news et B size cnt cells i v W) (h1 : i ≠ kb) (h2 : i ≠ ka) : v = vals.getD i undef := by
  rcases h with ⟨e,_⟩ | ⟨e,_⟩ | ⟨_,_,h⟩
  · exact absurd e h1
  · exact absurd e h2
  · exact h
theorem ApT.newv (hk : kb ≠ ka) (h : ApT vals kb ka n2 news et B size cnt cells kb v W) : ∃ g,v = .slice (some ⟨g,0,none⟩) 1 1 ∧ n2 ≤ g ∧ W.heap[g]? = some (.cells news.toArray et (0,0)) := by
  rcases h with ⟨_,h⟩ | ⟨e,_⟩ | ⟨e,_⟩
  · exact h
  · exact absurd e hk
  · exact absurd rfl e
theorem ApT.row (hk : kb ≠ ka) (h : ApT vals kb ka n2 news et B size cnt cells ka v W) : ∃ g c,v = .slice (some ⟨g,0,none⟩) (cnt + 1) c ∧ W.ownsRow B et size v (cnt + 1) (cells ++ news) := by
  rcases h with ⟨e,_⟩ | ⟨_,h⟩ | ⟨_,e,_⟩
  · exact absurd e.symm hk
  · exact h
  · exact absurd rfl e
theorem ApT.below {i : Nat} (h : ApT vals kb ka n2 news et B size cnt cells i v W) (hb : Below W.heap.size W W') : ApT vals kb ka n2 news et B size cnt cells i v W' := by
  rcases h with ⟨e,g,h1,h2,h3⟩ | ⟨e,g,c,h1,h2⟩ | h
  · exact .inl ⟨e,g,h1,h2,(hb.block g (Array.getElem?_eq_some_iff.1 h3).1).trans h3⟩
  · exact .inr (.inl ⟨e,g,c,h1,owns_below h2 hb (Nat.le_refl _)⟩)
  · exact .inr (.inr h)
theorem ApT.grow {i : Nat} {r : Option Nat} (h : ApT vals kb ka n2 news et B size cnt cells i v W) (hi : i ≠ ka) (hg : W.grownBy W' r) (hr : ∀ k,r = some k → k < n2) : ApT vals kb ka n2 news et B size cnt cells i v W' := by
  rcases h with ⟨e,g,h1,h2,h3⟩ | ⟨e,_⟩ | h
  · exact .inl ⟨e,g,h1,h2,(hg.block g (Array.getElem?_eq_some_iff.1 h3).1 fun e => by have := hr g e.symm; omega).trans h3⟩
  · exact absurd e hi
  · exact .inr (.inr h)
end
set_option maxHeartbeats 1600000 in
theorem least_c {w0 : World} {M : Nat} {nv pv sv : Value} {out : Int} {c : Cf} {pl : List (Value × Value × Ps)} {src : Rc} {sn pk : Int} {sl : List (Int × Int)} (g : Nat) (lb : Array Value) (p : Int × Int → Bool) (w : World) (hm : MS w0 M nv out c pl pv src sn pk sl sv w) (eg : ∀ args w,(callFunc g args).run Tryz.prog w = .ok (.enter g args) w) (hl : sl.length ≤ 1000)
    (hp : ∀ W x,Below w.heap.size w W → x ∈ sl → Calls Tryz.prog g (#[slv x] ++ lb) W (PPost W (.bool (p x)))) :
    Calls Tryz.prog 56 #[.pointer (some ⟨M,0,none⟩),.func (.func g) #[] lb] w (PPost w (.int .i64 (fIdx p sl))) := by
  have hc := idxS_c w0.heap.size g lb p sv sl w eg hl hm.sr hp
  have c14 := hm.box.cell 14 rfl
  obtain ⟨k,hk⟩ : ∃ k,k = fIdx p sl := ⟨_,rfl⟩
  rw [← hk] at hc ⊢
  clear hp hk hm eg
  go_enter Tryz.func56,Tryz.ntmps56
  go_wp2_with fail
  refine hc.mono ?_; rintro e w2 ⟨rfl,hb2⟩
  clear hc
  go_wp2_with fail
  go_ret
  exact ⟨rfl,hb2⟩
set_option maxRecDepth 4000 in
set_option maxHeartbeats 3200000 in
theorem inPlace_c {w0 : World} {M : Nat} {nv pv sv : Value} {out : Int} {c : Cf} {pl : List (Value × Value × Ps)} {src : Rc} {sn pk : Int} {sl : List (Int × Int)} (nds : List Nd) (at_ : Nat) (w : World) (hm : MS w0 M nv out c pl pv src sn pk sl sv w) (hg : Gr w.heap.size w nv nds) (hn100 : nds.length ≤ 100) (hat : at_ < pl.length) (hok : ∀ x ∈ psl pl,POk x) (hnd : ∀ x ∈ psl pl,∀ k ∈ x.nodes,k < nds.length) (hlt : ∀ s ∈ sl,s.2 < pl.length) (hl : sl.length ≤ 1000) :
    Calls Tryz.prog 55 #[.pointer (some ⟨M,0,none⟩),.int .i64 at_] w (PPost w (.int .i64 (inPlace nds (psl pl) at_ sl))) := by
  obtain ⟨y,hy⟩ : ∃ y,y = (psl pl).getD at_ Ps.none := ⟨_,rfl⟩
  have hym : y ∈ psl pl := by rw [hy]; exact List.mem_of_getElem? (show (psl pl)[at_]? = some ((psl pl).getD at_ Ps.none) by simp [psl,hat])
  have hyo : POk y := hok _ hym
  have HIP : Hid (inPlace nds (psl pl) at_ sl = if byP nds y then fIdx (inpl (psl pl) at_ y) sl else -1) := by
    have : inPlace nds (psl pl) at_ sl = if byP nds y then fIdx (inpl (psl pl) at_ y) sl else -1 := by rw [hy]; rfl
    exact this
  obtain ⟨g,cap,na,nc,ra,rc,hpv,hgB,hgl,hmx,hfz,hpc,ho1,ho2⟩ := hm.prs.at hat hy
  have HM : Hid (MS w0 M nv out c pl pv src sn pk sl sv w ∧ Gr w.heap.size w nv nds ∧ (∀ x ∈ psl pl,POk x) ∧ (∀ s ∈ sl,s.2 < pl.length) ∧ sl.length ≤ 1000 ∧ nds.length ≤ 100) := ⟨hm,hg,hok,hlt,hl,hn100⟩
  obtain ⟨X0,X1,hb2⟩ : Box ((w.alloc (.cells #[.pointer (some ⟨M,0,none⟩)] 48)).alloc (.cells #[.int .i64 at_] 3)) w.heap.size [.pointer (some ⟨M,0,none⟩)] ∧ Box ((w.alloc (.cells #[.pointer (some ⟨M,0,none⟩)] 48)).alloc (.cells #[.int .i64 at_] 3)) (w.heap.size + 1) [.int .i64 at_] ∧ Below w.heap.size w ((w.alloc (.cells #[.pointer (some ⟨M,0,none⟩)] 48)).alloc (.cells #[.int .i64 at_] 3)) := by
    have h0 := Box.new w [.pointer (some ⟨M,0,none⟩)] 48
    have h1 := Box.new (w.alloc (.cells #[.pointer (some ⟨M,0,none⟩)] 48)) [.int .i64 at_] 3
    simp only [size_alloc] at h1
    have b0 := below_new w (.cells #[.pointer (some ⟨M,0,none⟩)] 48)
    exact ⟨h0.alloc _,h1,b0.alloc b0.size _⟩
  have hmb := hm.box.cell 7 rfl
  obtain ⟨nn,hnn⟩ : ∃ n,n = y.nodes.length := ⟨_,rfl⟩
  obtain ⟨rn,hrn⟩ : ∃ n,n = y.reads.length := ⟨_,rfl⟩
  obtain ⟨n,hn⟩ : ∃ n,n = pl.length := ⟨_,rfl⟩
  rw [hpv] at hmb
  rw [← hn] at hmb hmx hat
  rw [← hnn,← hrn] at hpc
  have HY : Hid (OwnP w w0.heap.size (.slice na nn nc) (ofN y.nodes) ∧ OwnP w w0.heap.size (.slice ra y.reads.length rc) y.reads ∧ POk y ∧ rn = y.reads.length ∧ nn = y.nodes.length ∧ (∀ k ∈ y.nodes,k < nds.length)) := ⟨hnn ▸ ho1,ho2,hyo,hrn,hnn,hnd _ hym⟩
  have HB2 : Hid (Below w.heap.size w ((w.alloc (.cells #[.pointer (some ⟨M,0,none⟩)] 48)).alloc (.cells #[.int .i64 at_] 3))) := hb2
  obtain ⟨bp,hbp⟩ : ∃ b,b = byP nds y := ⟨_,rfl⟩
  have HBP : Hid (bp = byP nds y) := hbp
  rw [← hbp] at HIP
  have HF : Hid (∀ W,Below ((w.alloc (.cells #[.pointer (some ⟨M,0,none⟩)] 48)).alloc (.cells #[.int .i64 at_] 3)).heap.size ((w.alloc (.cells #[.pointer (some ⟨M,0,none⟩)] 48)).alloc (.cells #[.int .i64 at_] 3)) W → W.cell? ⟨w.heap.size,0,none⟩ = some (.pointer (some ⟨M,0,none⟩)) ∧ W.cell? ⟨w.heap.size + 1,0,none⟩ = some (.int .i64 at_) ∧ W.cell? ⟨M,7,none⟩ = some (.slice (some ⟨g,0,none⟩) n cap) ∧ PC W g (at_ * 8) (.slice na nn nc) (.slice ra rn rc) y) := fun W hW => by
    have hbw := hb2.trans (hW.mono hb2.size)
    exact ⟨(X0.call hW).cell 0 rfl,(X1.call hW).cell 0 rfl,(hbw.cell (lt_of_cell hmb)).trans hmb,hpc.call hbw⟩
  obtain ⟨ns,rs,⟨x0,y0,x1,y1⟩,so,lo⟩ := y
  unfold maxLen at hmx
  have hi0 : (0 : Int) ≤ (at_ : Int) := by omega
  have hi1 : (at_ : Int) < (n : Int) := by omega
  obtain ⟨ip,hip⟩ : ∃ k,k = inPlace nds (psl pl) at_ sl := ⟨_,rfl⟩
  rw [← hip] at HIP ⊢
  have HAT : Hid (at_ < n) := hat
  clear hm hg hok hnd hlt hl hn100 hat hy hym hyo hpv hgB hgl hfz hpc ho1 ho2 hmb hnn hrn X0 X1 hb2 hbp hip hn
  go_enter Tryz.func55,Tryz.ntmps55
  go_wp2_with fail
  rename_i K hK
  obtain ⟨W1,hW1⟩ : ∃ W,W = ((w.alloc (.cells #[.pointer (some ⟨M,0,none⟩)] 48)).alloc (.cells #[.int .i64 at_] 3)) := ⟨_,rfl⟩
  rw [← hW1] at HF HB2 ⊢
  clear hW1
  refine wp_region_mono (VT [.pointer (some ⟨M,0,none⟩),.pointer (some ⟨M,0,none⟩),.pointer (some ⟨M,7,none⟩),.pointer (some ⟨M,7,none⟩),.slice (some ⟨g,0,none⟩) n cap,.int .i64 at_,.pointer (some ⟨g,at_ * 8,none⟩),.agg #[.slice na nn nc,.slice ra rn rc,.int .i64 x0,.int .i64 y0,.int .i64 x1,.int .i64 y1,.int .i64 so,.int .i64 lo],undef] 8 W1.heap.size [.slice none 0 0,.slice none 0 0,.int .i64 0,.int .i64 0,.int .i64 0,.int .i64 0,.int .i64 0,.int .i64 0]) 9 _ rfl rfl (by kernel_rfl) (by kernel_rfl) VT.stab ?hop ?hlast
  case hop =>
    refine Each.get (n := 9) ⟨⟨⟨⟨⟨⟨⟨⟨⟨trivial,?h0⟩,?h1⟩,?h2⟩,?h3⟩,?h4⟩,?h5⟩,?h6⟩,?h7⟩,?h8⟩
    case h0 =>
      refine OpOk.plain (by kernel_rfl) _ rfl rfl fun vs ev W hf hb hd => ?_
      have e0 : ev (.tmp 2) = .pointer (some ⟨w.heap.size,0,none⟩) := hf.off 2 rfl
      have d0 := (HF.out W hb).1
      clear hK
      exact gives_mono (R := fun v w' => v = .pointer (some ⟨M,0,none⟩) ∧ w' = W) (by simp [gives,go_sem,e0,d0]) fun _ _ ⟨h1,h2⟩ => by subst h2; exact ⟨.inr ⟨by decide,h1⟩,Below.refl _ _⟩
    case h1 =>
      refine OpOk.plain (by kernel_rfl) _ rfl rfl fun vs ev W hf hb hd => ?_
      have e0 : ev (.tmp 6) = .pointer (some ⟨M,0,none⟩) := (hf.of 0 _ 6 rfl rfl rfl (of_decide_eq_true rfl)).trans ((hd 0 (by kernel_rfl)).val (by decide))
      clear hK
      exact gives_mono (R := fun v w' => v = .pointer (some ⟨M,0,none⟩) ∧ w' = W) (by simp [gives,go_sem,e0]) fun _ _ ⟨h1,h2⟩ => by subst h2; exact ⟨.inr ⟨by decide,h1⟩,Below.refl _ _⟩
    case h2 =>
      refine OpOk.plain (by kernel_rfl) _ rfl rfl fun vs ev W hf hb hd => ?_
      have e0 : ev (.tmp 7) = .pointer (some ⟨M,0,none⟩) := (hf.of 1 _ 7 rfl rfl rfl (of_decide_eq_true rfl)).trans ((hd 1 (by kernel_rfl)).val (by decide))
      clear hK
      exact gives_mono (R := fun v w' => v = .pointer (some ⟨M,7,none⟩) ∧ w' = W) (by simp [gives,go_sem,e0]) fun _ _ ⟨h1,h2⟩ => by subst h2; exact ⟨.inr ⟨by decide,h1⟩,Below.refl _ _⟩
    case h3 =>
      refine OpOk.plain (by kernel_rfl) _ rfl rfl fun vs ev W hf hb hd => ?_
      have e0 : ev (.tmp 8) = .pointer (some ⟨M,7,none⟩) := (hf.of 2 _ 8 rfl rfl rfl (of_decide_eq_true rfl)).trans ((hd 2 (by kernel_rfl)).val (by decide))
      clear hK
      exact gives_mono (R := fun v w' => v = .pointer (some ⟨M,7,none⟩) ∧ w' = W) (by simp [gives,go_sem,e0]) fun _ _ ⟨h1,h2⟩ => by subst h2; exact ⟨.inr ⟨by decide,h1⟩,Below.refl _ _⟩
    case h4 =>
      refine OpOk.plain (by kernel_rfl) _ rfl rfl fun vs ev W hf hb hd => ?_
      have e0 : ev (.tmp 9) = .pointer (some ⟨M,7,none⟩) := (hf.of 3 _ 9 rfl rfl rfl (of_decide_eq_true rfl)).trans ((hd 3 (by kernel_rfl)).val (by decide))
      have d0 := (HF.out W hb).2.2.1
      clear hK
      exact gives_mono (R := fun v w' => v = .slice (some ⟨g,0,none⟩) n cap ∧ w' = W) (by simp [gives,go_sem,e0,d0]) fun _ _ ⟨h1,h2⟩ => by subst h2; exact ⟨.inr ⟨by decide,h1⟩,Below.refl _ _⟩
    case h5 =>
      refine OpOk.plain (by kernel_rfl) _ rfl rfl fun vs ev W hf hb hd => ?_
      have e0 : ev (.tmp 3) = .pointer (some ⟨w.heap.size + 1,0,none⟩) := hf.off 3 rfl
      have d0 := (HF.out W hb).2.1
      clear hK
      exact gives_mono (R := fun v w' => v = .int .i64 at_ ∧ w' = W) (by simp [gives,go_sem,e0,d0]) fun _ _ ⟨h1,h2⟩ => by subst h2; exact ⟨.inr ⟨by decide,h1⟩,Below.refl _ _⟩
    case h6 =>
      refine OpOk.plain (by kernel_rfl) _ rfl rfl fun vs ev W hf hb hd => ?_
      have e0 : ev (.tmp 10) = .slice (some ⟨g,0,none⟩) n cap := (hf.of 4 _ 10 rfl rfl rfl (of_decide_eq_true rfl)).trans ((hd 4 (by kernel_rfl)).val (by decide))
      have e1 : ev (.tmp 11) = .int .i64 at_ := (hf.of 5 _ 11 rfl rfl rfl (of_decide_eq_true rfl)).trans ((hd 5 (by kernel_rfl)).val (by decide))
      clear hK
      exact gives_mono (R := fun v w' => v = .pointer (some ⟨g,at_ * 8,none⟩) ∧ w' = W) (by simp [gives,go_sem,e0,e1,hi0,hi1]) fun _ _ ⟨h1,h2⟩ => by subst h2; exact ⟨.inr ⟨by decide,h1⟩,Below.refl _ _⟩
    case h7 =>
      refine OpOk.plain (by kernel_rfl) _ rfl rfl fun vs ev W hf hb hd => ?_
      have e0 : ev (.tmp 12) = .pointer (some ⟨g,at_ * 8,none⟩) := (hf.of 6 _ 12 rfl rfl rfl (of_decide_eq_true rfl)).trans ((hd 6 (by kernel_rfl)).val (by decide))
      obtain ⟨d0,d1,d2,d3,d4,d5,d6,d7⟩ := (HF.out W hb).2.2.2
      clear hK
      exact gives_mono (R := fun v w' => v = .agg #[.slice na nn nc,.slice ra rn rc,.int .i64 x0,.int .i64 y0,.int .i64 x1,.int .i64 y1,.int .i64 so,.int .i64 lo] ∧ w' = W) (by simp [gives,go_sem,e0,d0,d1,d2,d3,d4,d5,d6,d7]) fun _ _ ⟨h1,h2⟩ => by subst h2; exact ⟨.inr ⟨by decide,h1⟩,Below.refl _ _⟩
    case h8 =>
      refine OpOk.plain (by kernel_rfl) _ rfl rfl fun vs ev W hf hb hd => ?_
      clear hK
      refine gives_mono (R := fun v w' => v = .pointer (some ⟨W.heap.size,0,none⟩) ∧ w' = W.alloc (.cells #[.slice none 0 0,.slice none 0 0,.int .i64 0,.int .i64 0,.int .i64 0,.int .i64 0,.int .i64 0,.int .i64 0] 37)) (by simp [gives,go_sem]) ?_
      rintro _ _ ⟨rfl,rfl⟩
      exact ⟨.inl ⟨rfl,_,hb.size,rfl,Box.new W _ _⟩,below_alloc _ _⟩
  case hlast =>
  intro vs W hb hT
  have t7 := (hT 7 (by decide)).val (by decide)
  obtain ⟨q,hq1,hq2,hq3⟩ := (hT 8 (by decide)).made
  refine last_plain (by kernel_rfl) rfl fun F ev hF hf => ?_
  have e1 := (hf.of 7 _ 13 rfl rfl rfl (of_decide_eq_true rfl)).trans t7
  have e2 := (hf.of 8 _ 5 rfl rfl rfl (of_decide_eq_true rfl)).trans hq2
  obtain ⟨q0,q1,q2,q3,q4,q5,q6,q7⟩ : PC W q 0 (.slice none 0 0) (.slice none 0 0) ⟨[],[],⟨0,0,0,0⟩,0,0⟩ := box8 hq3
  have f0 := hq3.frozen 0
  have f1 := hq3.frozen 1
  have f2 := hq3.frozen 2
  have f3 := hq3.frozen 3
  have f4 := hq3.frozen 4
  have f5 := hq3.frozen 5
  have f6 := hq3.frozen 6
  have f7 := hq3.frozen 7
  have H8 : Hid (Below w.heap.size w ((((((((W.setCell ⟨q,0,none⟩ (.slice na nn nc)).setCell ⟨q,1,none⟩ (.slice ra rn rc)).setCell ⟨q,2,none⟩ (.int .i64 x0)).setCell ⟨q,3,none⟩ (.int .i64 y0)).setCell ⟨q,4,none⟩ (.int .i64 x1)).setCell ⟨q,5,none⟩ (.int .i64 y1)).setCell ⟨q,6,none⟩ (.int .i64 so)).setCell ⟨q,7,none⟩ (.int .i64 lo)) ∧ PC ((((((((W.setCell ⟨q,0,none⟩ (.slice na nn nc)).setCell ⟨q,1,none⟩ (.slice ra rn rc)).setCell ⟨q,2,none⟩ (.int .i64 x0)).setCell ⟨q,3,none⟩ (.int .i64 y0)).setCell ⟨q,4,none⟩ (.int .i64 x1)).setCell ⟨q,5,none⟩ (.int .i64 y1)).setCell ⟨q,6,none⟩ (.int .i64 so)).setCell ⟨q,7,none⟩ (.int .i64 lo)) q 0 (.slice na nn nc) (.slice ra rn rc) ⟨ns,rs,⟨x0,y0,x1,y1⟩,so,lo⟩ ∧ ((((((((W.setCell ⟨q,0,none⟩ (.slice na nn nc)).setCell ⟨q,1,none⟩ (.slice ra rn rc)).setCell ⟨q,2,none⟩ (.int .i64 x0)).setCell ⟨q,3,none⟩ (.int .i64 y0)).setCell ⟨q,4,none⟩ (.int .i64 x1)).setCell ⟨q,5,none⟩ (.int .i64 y1)).setCell ⟨q,6,none⟩ (.int .i64 so)).setCell ⟨q,7,none⟩ (.int .i64 lo)).cell? ⟨w.heap.size,0,none⟩ = some (.pointer (some ⟨M,0,none⟩)) ∧ ((((((((W.setCell ⟨q,0,none⟩ (.slice na nn nc)).setCell ⟨q,1,none⟩ (.slice ra rn rc)).setCell ⟨q,2,none⟩ (.int .i64 x0)).setCell ⟨q,3,none⟩ (.int .i64 y0)).setCell ⟨q,4,none⟩ (.int .i64 x1)).setCell ⟨q,5,none⟩ (.int .i64 y1)).setCell ⟨q,6,none⟩ (.int .i64 so)).setCell ⟨q,7,none⟩ (.int .i64 lo)).cell? ⟨w.heap.size + 1,0,none⟩ = some (.int .i64 at_)) := by
    have hbq : Below W1.heap.size W1 ((((((((W.setCell ⟨q,0,none⟩ (.slice na nn nc)).setCell ⟨q,1,none⟩ (.slice ra rn rc)).setCell ⟨q,2,none⟩ (.int .i64 x0)).setCell ⟨q,3,none⟩ (.int .i64 y0)).setCell ⟨q,4,none⟩ (.int .i64 x1)).setCell ⟨q,5,none⟩ (.int .i64 y1)).setCell ⟨q,6,none⟩ (.int .i64 so)).setCell ⟨q,7,none⟩ (.int .i64 lo)) := below_set8 hb hq1 _ _ _ _ _ _ _ _
    exact ⟨HB2.out.trans (hbq.mono HB2.out.size),box8 (set8_box hq3 _ _ _ _ _ _ _ _),(HF.out _ hbq).1,(HF.out _ hbq).2.1⟩
  refine gives_mono (R := fun v w' => v = undef ∧ w' = ((((((((W.setCell ⟨q,0,none⟩ (.slice na nn nc)).setCell ⟨q,1,none⟩ (.slice ra rn rc)).setCell ⟨q,2,none⟩ (.int .i64 x0)).setCell ⟨q,3,none⟩ (.int .i64 y0)).setCell ⟨q,4,none⟩ (.int .i64 x1)).setCell ⟨q,5,none⟩ (.int .i64 y1)).setCell ⟨q,6,none⟩ (.int .i64 so)).setCell ⟨q,7,none⟩ (.int .i64 lo))) (by simp [gives,go_sem,e1,e2,q0,q1,q2,q3,q4,q5,q6,q7,f0,f1,f2,f3,f4,f5,f6,f7]) ?_
  rintro _ _ ⟨rfl,rfl⟩
  subst hF
  simp [fr,Act.put,t7,hq2]
  generalize vs 0 = u0 at *
  generalize vs 1 = u1 at *
  generalize vs 2 = u2 at *
  generalize vs 3 = u3 at *
  generalize vs 4 = u4 at *
  generalize vs 5 = u5 at *
  generalize vs 6 = u6 at *
  generalize vs 7 = u7 at *
  generalize vs 8 = u8 at *
  clear hT hf t7 e1 e2 hq2
  refine hK _ _ ?_
  clear hK q0 q1 q2 q3 q4 q5 q6 q7 f0 f1 f2 f3 f4 f5 f6 f7 hb hq1 hq3 HF HB2
  generalize ((((((((W.setCell ⟨q,0,none⟩ (.slice na nn nc)).setCell ⟨q,1,none⟩ (.slice ra rn rc)).setCell ⟨q,2,none⟩ (.int .i64 x0)).setCell ⟨q,3,none⟩ (.int .i64 y0)).setCell ⟨q,4,none⟩ (.int .i64 x1)).setCell ⟨q,5,none⟩ (.int .i64 y1)).setCell ⟨q,6,none⟩ (.int .i64 so)).setCell ⟨q,7,none⟩ (.int .i64 lo)) = W8 at *
  clear W
  obtain ⟨a0,a1,a2,a3,a4,a5,a6,a7⟩ := H8.out.2.1
  have g0 := H8.out.2.2.1
  have a0 : W8.cell? ⟨q,0,none⟩ = some (.slice na nn nc) := a0
  have a1 : W8.cell? ⟨q,1,none⟩ = some (.slice ra rn rc) := a1
  have a2 : W8.cell? ⟨q,2,none⟩ = some (.int .i64 x0) := a2
  have a3 : W8.cell? ⟨q,3,none⟩ = some (.int .i64 y0) := a3
  have a4 : W8.cell? ⟨q,4,none⟩ = some (.int .i64 x1) := a4
  have a5 : W8.cell? ⟨q,5,none⟩ = some (.int .i64 y1) := a5
  have a6 : W8.cell? ⟨q,6,none⟩ = some (.int .i64 so) := a6
  have a7 : W8.cell? ⟨q,7,none⟩ = some (.int .i64 lo) := a7
  have hbc := byp_c W8.heap.size M nv nds na nn nc ra rn rc ⟨ns,rs,⟨x0,y0,x1,y1⟩,so,lo⟩ W8 (Nat.lt_of_lt_of_le HM.out.1.lt H8.out.1.size) (by have := HM.out.2.2.2.2.2; omega) ((HM.out.1.call H8.out.1).box.cell 0 rfl) ((HM.out.2.1.below H8.out.1 (Nat.le_refl _)).mono H8.out.1.size) (Nat.le_refl _) (own_sl_int (HY.out.1.below H8.out.1) HY.out.2.2.1.2.1) HY.out.2.2.2.2.2
  rw [← HBP.out] at hbc
  go_wp2_with fail
  refine hbc.mono ?_; rintro e w2 ⟨rfl,hb2⟩
  have H9 : Hid (Below w.heap.size w w2 ∧ PC w2 q 0 (.slice na nn nc) (.slice ra rn rc) ⟨ns,rs,⟨x0,y0,x1,y1⟩,so,lo⟩ ∧ w2.cell? ⟨w.heap.size,0,none⟩ = some (.pointer (some ⟨M,0,none⟩)) ∧ w2.cell? ⟨w.heap.size + 1,0,none⟩ = some (.int .i64 at_)) := ⟨H8.out.1.trans (hb2.mono H8.out.1.size),H8.out.2.1.call hb2,(hb2.cell (lt_of_cell H8.out.2.2.1)).trans H8.out.2.2.1,(hb2.cell (lt_of_cell H8.out.2.2.2)).trans H8.out.2.2.2⟩
  clear a0 a1 a2 a3 a4 a5 a6 a7 g0 hbc hb2 H8 HBP
  cases bp with
  | false =>
    have HE : Hid (ip = -1) := by
      have : ip = -1 := HIP.out
      exact this
    go_wp2_with fail
    go_ret
    exact ⟨by rw [HE.out]; rfl,H9.out.1⟩
  | true =>
    have HE : Hid (ip = fIdx (inpl (psl pl) at_ ⟨ns,rs,⟨x0,y0,x1,y1⟩,so,lo⟩) sl) := by
      have : ip = fIdx (inpl (psl pl) at_ ⟨ns,rs,⟨x0,y0,x1,y1⟩,so,lo⟩) sl := HIP.out
      exact this
    have g0 := H9.out.2.2.1
    have hle := least_c 76 #[.pointer (some ⟨w.heap.size,0,none⟩),.pointer (some ⟨w.heap.size + 1,0,none⟩),.pointer (some ⟨q,0,none⟩)] (inpl (psl pl) at_ ⟨ns,rs,⟨x0,y0,x1,y1⟩,so,lo⟩) w2 (HM.out.1.call H9.out.1) (enters_of Tryz.func76 (by kernel_rfl) rfl) HM.out.2.2.2.2.1 (fun W x hW hx => by
      have hbw := H9.out.1.trans (hW.mono H9.out.1.size)
      have hrn := HY.out.2.2.2.1
      have hnn := HY.out.2.2.2.2.1
      subst hrn hnn
      exact inpl_c w.heap.size (w.heap.size + 1) q at_ undef undef ⟨ns,rs,⟨x0,y0,x1,y1⟩,so,lo⟩ (na,nc) (ra,rc) x W (HM.out.1.call hbw) (HM.out.2.2.2.1 x hx) HM.out.2.2.1 ((hW.cell (lt_of_cell H9.out.2.2.1)).trans H9.out.2.2.1) ((hW.cell (lt_of_cell H9.out.2.2.2)).trans H9.out.2.2.2) (H9.out.2.1.call hW) (HY.out.2.1.below hbw) HY.out.2.2.1.2.2.1)
    rw [← HE.out] at hle
    clear HE HIP
    go_wp2_with fail
    refine hle.mono ?_; rintro e w3 ⟨rfl,hb3⟩
    have HB : Hid (Below w.heap.size w w3) := H9.out.1.trans (hb3.mono H9.out.1.size)
    clear hle hb3 g0
    go_wp2_with fail
    go_ret
    exact ⟨rfl,HB.out⟩
end Go.Proofs.YtaoamkbcegadcaaGreatDoor
