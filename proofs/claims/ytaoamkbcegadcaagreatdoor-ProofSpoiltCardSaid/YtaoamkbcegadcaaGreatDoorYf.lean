/- Texts joined: XYf. -/
import Derived.Test.YtaoamkbcegadcaaGreatDoorYe
import Derived.Test.YtaoamkbcegadcaaGreatDoorAf
import Derived.Test.YtaoamkbcegadcaaGreatDoorAd
set_option maxRecDepth 4000
/- Layer 19: a slot in whose place a pass may be done. (Printed by mk_yf.py.) -/
namespace Go.Proofs.YtaoamkbcegadcaaGreatDoor
open Go.RowKit Go.Bx Go.Od Go.Hp
attribute [local go_sem ↓] Go.wp_at_zero Go.wp_at_succ
set_option linter.unusedVariables false

def psl (pl : List (Value × Value × Ps)) : List Ps := pl.map fun x => x.2.2
theorem psl_len (pl : List (Value × Value × Ps)) : (psl pl).length = pl.length := by simp [psl]
def PR (B : Nat) (pl : List (Value × Value × Ps)) (pv : Value) (W : World) : Prop := W.ownsRow B 37 8 pv pl.length (pcs pl) ∧ ∀ x ∈ pl,OwnP W B x.1 (ofN x.2.2.nodes) ∧ OwnP W B x.2.1 x.2.2.reads
def PC (W : World) (g o : Nat) (s t : Value) (p : Ps) : Prop := W.cell? ⟨g,o,none⟩ = some s ∧ W.cell? ⟨g,o + 1,none⟩ = some t ∧ W.cell? ⟨g,o + 2,none⟩ = some (.int .i64 p.box.x0) ∧ W.cell? ⟨g,o + 3,none⟩ = some (.int .i64 p.box.y0) ∧ W.cell? ⟨g,o + 4,none⟩ = some (.int .i64 p.box.x1) ∧ W.cell? ⟨g,o + 5,none⟩ = some (.int .i64 p.box.y1) ∧ W.cell? ⟨g,o + 6,none⟩ = some (.int .i64 p.slot) ∧ W.cell? ⟨g,o + 7,none⟩ = some (.int .i64 p.last)
theorem PC.call {W W' : World} {g o : Nat} {s t : Value} {p : Ps} (h : PC W g o s t p) (hb : Below W.heap.size W W') : PC W' g o s t p := by
  obtain ⟨h0,h1,h2,h3,h4,h5,h6,h7⟩ := h
  exact ⟨(hb.cell (lt_of_cell h0)).trans h0,(hb.cell (lt_of_cell h1)).trans h1,(hb.cell (lt_of_cell h2)).trans h2,(hb.cell (lt_of_cell h3)).trans h3,(hb.cell (lt_of_cell h4)).trans h4,(hb.cell (lt_of_cell h5)).trans h5,(hb.cell (lt_of_cell h6)).trans h6,(hb.cell (lt_of_cell h7)).trans h7⟩
theorem own_slN {w : World} {B n : Nat} {v : Value} {xs : List Int} (h : OwnP w B v xs) (hn : n = xs.length) : ∃ a c,v = .slice a n c := by subst hn; exact own_slv h
theorem PR.form {B : Nat} {pl : List (Value × Value × Ps)} {pv : Value} {W : World} (h : PR B pl pv W) : ∃ a c,pv = .slice a pl.length c := by
  rcases h.1.2 with ⟨rfl,h0⟩ | ⟨g,c,cur,rfl,_⟩
  · exact ⟨none,0,by rw [h0]⟩
  · exact ⟨_,c,rfl⟩
theorem PR.at {B : Nat} {pl : List (Value × Value × Ps)} {pv : Value} {W : World} (h : PR B pl pv W) {i : Nat} (hi : i < pl.length) {p : Ps} (hp : p = (psl pl).getD i Ps.none) :
    ∃ g cap na nc ra rc,pv = .slice (some ⟨g,0,none⟩) pl.length cap ∧ B ≤ g ∧ g < W.heap.size ∧ pl.length ≤ maxLen ∧ (∀ k,W.frozen? ⟨g,k,none⟩ = false) ∧
      PC W g (i * 8) (.slice na p.nodes.length nc) (.slice ra p.reads.length rc) p ∧ OwnP W B (.slice na p.nodes.length nc) (ofN p.nodes) ∧ OwnP W B (.slice ra p.reads.length rc) p.reads := by
  obtain ⟨s,t,q,hx⟩ : ∃ s t q,pl[i]? = some (s,t,q) := ⟨_,_,_,by rw [List.getElem?_eq_getElem hi]⟩
  have hpq : p = q := by rw [hp]; unfold psl; simp [hx]
  subst hpq
  obtain ⟨o1,o2⟩ := h.2 _ (List.mem_of_getElem? hx)
  dsimp only at o1 o2
  obtain ⟨na,nc,rfl⟩ := own_slN (n := p.nodes.length) o1 (ofN_len _).symm
  obtain ⟨ra,rc,rfl⟩ := own_slN (n := p.reads.length) o2 rfl
  have hr := h.1
  have hl := pcs_len pl
  have hc : ∀ k u,k < 8 → (pcl (.slice na p.nodes.length nc) (.slice ra p.reads.length rc) p)[k]? = some u → ∀ g cap,pv = .slice (some ⟨g,0,none⟩) pl.length cap → W.cell? ⟨g,i * 8 + k,none⟩ = some u := fun k u hk hu g cap hv => by
    have h2 := pcs_get pl i _ hx k u hu
    subst hv
    rw [World.ownsRow.cellAt hr (i * 8 + k) (by omega),h2]
  rcases hr.2 with ⟨rfl,h0⟩ | ⟨g,cap,cur,rfl,hB,hb,hle,hcm,hsz,htk⟩
  · omega
  · refine ⟨g,cap,na,nc,ra,rc,rfl,hB,(Array.getElem?_eq_some_iff.1 hb).1,by omega,fun k => World.ownsRow.frozenAt hr k,?_,o1,o2⟩
    exact ⟨hc 0 _ (by omega) rfl g cap rfl,hc 1 _ (by omega) rfl g cap rfl,hc 2 _ (by omega) rfl g cap rfl,hc 3 _ (by omega) rfl g cap rfl,hc 4 _ (by omega) rfl g cap rfl,hc 5 _ (by omega) rfl g cap rfl,hc 6 _ (by omega) rfl g cap rfl,hc 7 _ (by omega) rfl g cap rfl⟩
theorem MS.prs {w0 W : World} {M : Nat} {nv pv sv : Value} {out : Int} {c : Cf} {pl : List (Value × Value × Ps)} {src : Rc} {sn pk : Int} {sl : List (Int × Int)} (h : MS w0 M nv out c pl pv src sn pk sl sv W) : PR w0.heap.size pl pv W := ⟨h.pr,h.pi⟩
set_option maxHeartbeats 800000 in
theorem eqRcs (a b c d a' b' c' d' : Int) (w : World) : (Op.equalIn 10000 26 (.agg #[.int .i64 a,.int .i64 b,.int .i64 c,.int .i64 d]) (.agg #[.int .i64 a',.int .i64 b',.int .i64 c',.int .i64 d'])).run Tryz.prog w = .ok (decide (a = a') && (decide (b = b') && (decide (c = c') && decide (d = d')))) w := by
  rw [run_equalIn_struct w 9999 26 _ _ struct_Rect stood_Rect]
  have hf := fields_Rect
  generalize (Tryz.prog.fieldsOf 26).toList = l at hf ⊢
  rcases l with _ | ⟨f,_ | ⟨g,_ | ⟨h,_ | ⟨k,_ | ⟨e,l⟩⟩⟩⟩⟩
  · simp at hf
  · simp at hf
  · simp at hf
  · simp at hf
  rotate_left
  · simp at hf
  · simp only [List.map_cons,List.map_nil,List.cons.injEq,Prod.mk.injEq,and_true,decide_eq_false_iff_not] at hf
    obtain ⟨⟨a1,a2,a3⟩,⟨b1,b2,b3⟩,⟨c1,c2,c3⟩,d1,d2,d3⟩ := hf
    unfold Op.eqFields
    rw [a2,a3,if_pos a1]
    unfold Op.eqFields
    rw [b2,b3,if_pos b1]
    unfold Op.eqFields
    rw [c2,c3,if_pos c1]
    unfold Op.eqFields
    rw [d2,d3,if_pos d1]
    unfold Op.eqFields
    go_simp
    by_cases h0 : a = a' <;> by_cases h1 : b = b' <;> by_cases h2 : c = c' <;> by_cases h3 : d = d' <;> simp [h0,h1,h2,h3]
theorem eqlRc (a b : Rc) (w : World) : (binOp .eql 26 (rv a) (rv b)).run Tryz.prog w = .ok (.bool (rcEq a b)) w := by
  rw [run_eql_struct,eqRcs]
  rfl
def POk (p : Ps) : Prop := 0 < p.nodes.length ∧ (∀ k ∈ p.nodes,k < 1000) ∧ (∀ x ∈ p.reads,In64 x) ∧ RcP p.box
theorem box8 {W : World} {b : Nat} {s t : Value} {p : Ps} (h : Box W b (pcl s t p)) : PC W b 0 s t p := ⟨h.cell 0 rfl,h.cell 1 rfl,h.cell 2 rfl,h.cell 3 rfl,h.cell 4 rfl,h.cell 5 rfl,h.cell 6 rfl,h.cell 7 rfl⟩
theorem set8_box {W : World} {g : Nat} {a0 a1 a2 a3 a4 a5 a6 a7 : Value} (h : Box W g [a0,a1,a2,a3,a4,a5,a6,a7]) (b0 b1 b2 b3 b4 b5 b6 b7 : Value) : Box ((((((((W.setCell ⟨g,0,none⟩ (b0)).setCell ⟨g,1,none⟩ (b1)).setCell ⟨g,2,none⟩ (b2)).setCell ⟨g,3,none⟩ (b3)).setCell ⟨g,4,none⟩ (b4)).setCell ⟨g,5,none⟩ (b5)).setCell ⟨g,6,none⟩ (b6)).setCell ⟨g,7,none⟩ (b7)) g [b0,b1,b2,b3,b4,b5,b6,b7] := by
  obtain ⟨t,h⟩ := h
  refine ⟨t,?_⟩
  simp [World.setCell,Array.getElem?_modify,h]
theorem below_set8 {W W' : World} {n g : Nat} (h : Below n W W') (hg : n ≤ g) (b0 b1 b2 b3 b4 b5 b6 b7 : Value) : Below n W ((((((((W'.setCell ⟨g,0,none⟩ (b0)).setCell ⟨g,1,none⟩ (b1)).setCell ⟨g,2,none⟩ (b2)).setCell ⟨g,3,none⟩ (b3)).setCell ⟨g,4,none⟩ (b4)).setCell ⟨g,5,none⟩ (b5)).setCell ⟨g,6,none⟩ (b6)).setCell ⟨g,7,none⟩ (b7)) :=
  (((((((h.setCell hg _).setCell hg _).setCell hg _).setCell hg _).setCell hg _).setCell hg _).setCell hg _).setCell hg _
set_option maxRecDepth 4000 in
set_option maxHeartbeats 3200000 in
theorem inpl_c {w0 : World} {M : Nat} {nv pv sv : Value} {out : Int} {c : Cf} {pl : List (Value × Value × Ps)} {src : Rc} {sn pk : Int} {sl : List (Int × Int)} (mb ab pb at_ : Nat) (ea eb : Value) (p : Ps) (rb rc2 : Option Addr × Nat) (s : Int × Int) (w : World)
    (hm : MS w0 M nv out c pl pv src sn pk sl sv w) (hlt : s.2 < pl.length) (hok : ∀ x ∈ psl pl,POk x) (h1 : w.cell? ⟨mb,0,none⟩ = some (.pointer (some ⟨M,0,none⟩))) (h2 : w.cell? ⟨ab,0,none⟩ = some (.int .i64 at_))
    (h3 : PC w pb 0 (.slice rb.1 p.nodes.length rb.2) (.slice rc2.1 p.reads.length rc2.2) p) (hr : OwnP w w0.heap.size (.slice rc2.1 p.reads.length rc2.2) p.reads) (hri : ∀ x ∈ p.reads,In64 x) :
    Calls Tryz.prog 76 #[slv s,.pointer (some ⟨mb,0,none⟩),.pointer (some ⟨ab,0,none⟩),.pointer (some ⟨pb,0,none⟩)] w (PPost w (.bool (inpl (psl pl) at_ p s))) := by
  obtain ⟨a,b⟩ := s
  obtain ⟨rba,rbc⟩ := rb
  obtain ⟨rca,rcc⟩ := rc2
  dsimp only at hlt h3 hr
  have hb1 := below_new w (.cells #[.int .i64 a,.int .i64 b] 73)
  have X1 := Box.new w [.int .i64 a,.int .i64 b] 73
  by_cases hb : b < 0
  · have HE : Hid (inpl (psl pl) at_ p (a,b) = false) := by
      have : inpl (psl pl) at_ p (a,b) = false := by unfold inpl; rw [if_pos hb]
      exact this
    have HB : Hid (Below w.heap.size w (w.alloc (.cells #[.int .i64 a,.int .i64 b] 73))) := hb1
    have hd : decide (b < 0) = true := decide_eq_true hb
    clear hm h1 h2 h3 hr X1 hb1
    go_enter Tryz.func76,Tryz.ntmps76
    go_wp2_with fail
    go_ret
    exact ⟨ret_b HE.out.symm,HB.out⟩
  obtain ⟨o,rfl⟩ := Int.eq_ofNat_of_zero_le (Int.not_lt.1 hb)
  have hd : decide ((o : Int) < 0) = false := decide_eq_false hb
  have hol : o < pl.length := by omega
  obtain ⟨y,hy⟩ : ∃ y,y = (psl pl).getD o Ps.none := ⟨_,rfl⟩
  have hyo : POk y := hok _ (by rw [hy]; exact List.mem_of_getElem? (show (psl pl)[o]? = some ((psl pl).getD o Ps.none) by simp [psl,hol]))
  have HE : Hid (inpl (psl pl) at_ p (a,(o : Int)) = (decide (y.last = at_) && (rcEq y.box p.box && p.reads.contains (resP y : Int)))) := by
    have : inpl (psl pl) at_ p (a,(o : Int)) = (decide (y.last = at_) && (rcEq y.box p.box && p.reads.contains (resP y : Int))) := by
      unfold inpl
      rw [if_neg (by dsimp only; omega)]
      dsimp only
      rw [Int.toNat_natCast,← hy]
    exact this
  obtain ⟨g,cap,na,nc,ra,rc,rfl,hgB,hgl,hmx,hfz,hpc,ho1,ho2⟩ := hm.prs.at hol hy
  obtain ⟨nn,hnn⟩ : ∃ n,n = y.nodes.length := ⟨_,rfl⟩
  obtain ⟨rn,hrn⟩ : ∃ n,n = y.reads.length := ⟨_,rfl⟩
  obtain ⟨pn,hpn⟩ : ∃ n,n = p.nodes.length := ⟨_,rfl⟩
  obtain ⟨pr,hpr⟩ : ∃ n,n = p.reads.length := ⟨_,rfl⟩
  obtain ⟨n,hn⟩ : ∃ n,n = pl.length := ⟨_,rfl⟩
  have hmb := hm.box.cell 7 rfl
  have HRES : Hid (∀ W,Below w.heap.size w W → Calls Tryz.prog 77 #[pvl na nn nc ra rn rc y] W (PPost W (.int .i64 (resP y : Nat)))) := fun W hW => by
    exact result_c na nn nc ra rn rc y W hnn (by rw [hnn]; exact hyo.1) (own_sl_int ((hnn ▸ ho1).below hW) hyo.2.1)
  have HCON : Hid (∀ W,Below w.heap.size w W → Calls Tryz.prog 50 #[.slice rca pr rcc,.int .i64 (resP y : Nat)] W (PPost W (.bool (p.reads.contains (resP y : Int))))) := fun W hW => by
    have h := contains_c (own_sl_x ((hpr ▸ hr).below hW) hri) (resP y : Int)
    exact h.mono fun e w' ⟨h1,h2⟩ => ⟨h1,by rw [h2]; exact Below.refl _ _⟩
  obtain ⟨res,hres⟩ : ∃ r,r = resP y := ⟨_,rfl⟩
  obtain ⟨con,hcon⟩ : ∃ r,r = p.reads.contains (res : Int) := ⟨_,rfl⟩
  rw [← hres] at HE HRES HCON
  rw [← hcon] at HE HCON
  rw [← hnn,← hrn] at hpc
  rw [← hpn,← hpr] at h3
  rw [← hn] at hmb hmx hol
  have hbb : Hid _ := hb1
  obtain ⟨ns,rs,⟨x0,y0,x1,y1⟩,so,lo⟩ := y
  obtain ⟨ns',rs',⟨x0',y0',x1',y1'⟩,so',lo'⟩ := p
  dsimp only at hpc h3 HE
  have HF : Hid (∀ W,Below (w.alloc (.cells #[.int .i64 a,.int .i64 o] 73)).heap.size (w.alloc (.cells #[.int .i64 a,.int .i64 o] 73)) W → W.cell? ⟨mb,0,none⟩ = some (.pointer (some ⟨M,0,none⟩)) ∧ W.cell? ⟨M,7,none⟩ = some (.slice (some ⟨g,0,none⟩) n cap) ∧ W.cell? ⟨w.heap.size,1,none⟩ = some (.int .i64 o) ∧ PC W g (o * 8) (.slice na nn nc) (.slice ra rn rc) ⟨ns,rs,⟨x0,y0,x1,y1⟩,so,lo⟩) := fun W hW => by
    have hb2 := hb1.trans (hW.mono hb1.size)
    exact ⟨(hb2.cell (lt_of_cell h1)).trans h1,(hb2.cell (lt_of_cell hmb)).trans hmb,(X1.call hW).cell 1 rfl,hpc.call hb2⟩
  have HG : Hid (∀ W,Below w.heap.size w W → W.cell? ⟨ab,0,none⟩ = some (.int .i64 at_) ∧ PC W pb 0 (.slice rba pn rbc) (.slice rca pr rcc) ⟨ns',rs',⟨x0',y0',x1',y1'⟩,so',lo'⟩) := fun W hW => ⟨(hW.cell (lt_of_cell h2)).trans h2,h3.call hW⟩
  unfold maxLen at hmx
  have hi0 : (0 : Int) ≤ (o : Int) := by omega
  have hi1 : (o : Int) < (n : Int) := by omega
  clear hm h1 h2 h3 hr X1 hb1 hpc ho1 ho2 hfz hy hyo hok hri hmb hnn hrn hpn hpr hn hres hcon hlt
  go_enter Tryz.func76,Tryz.ntmps76
  go_wp2_with fail
  rename_i K hK
  obtain ⟨W1,hW1⟩ : ∃ W,W = w.alloc (.cells #[.int .i64 a,.int .i64 o] 73) := ⟨_,rfl⟩
  have hbb' : Below w.heap.size w W1 := by rw [hW1]; exact hbb.out
  have HB1 : Hid (Below w.heap.size w W1) := hbb'
  rw [← hW1] at HF ⊢
  clear hW1 hbb hbb'
  refine wp_region_mono (VT [.pointer (some ⟨M,0,none⟩),.pointer (some ⟨M,0,none⟩),.pointer (some ⟨M,7,none⟩),.pointer (some ⟨M,7,none⟩),.slice (some ⟨g,0,none⟩) n cap,.pointer (some ⟨w.heap.size,1,none⟩),.int .i64 o,.pointer (some ⟨g,o * 8,none⟩),.agg #[.slice na nn nc,.slice ra rn rc,.int .i64 x0,.int .i64 y0,.int .i64 x1,.int .i64 y1,.int .i64 so,.int .i64 lo],undef] 9 W1.heap.size [.slice none 0 0,.slice none 0 0,.int .i64 0,.int .i64 0,.int .i64 0,.int .i64 0,.int .i64 0,.int .i64 0]) 10 _ rfl rfl (by kernel_rfl) (by kernel_rfl) VT.stab ?hop ?hlast
  case hop =>
    refine Each.get (n := 10) ⟨⟨⟨⟨⟨⟨⟨⟨⟨⟨trivial,?h0⟩,?h1⟩,?h2⟩,?h3⟩,?h4⟩,?h5⟩,?h6⟩,?h7⟩,?h8⟩,?h9⟩
    case h0 =>
      refine OpOk.plain (by kernel_rfl) _ rfl rfl fun vs ev W hf hb hd => ?_
      have e0 : ev (.tmp 1) = .pointer (some ⟨mb,0,none⟩) := hf.off 1 rfl
      have d0 := (HF.out W hb).1
      clear hK
      exact gives_mono (R := fun v w' => v = .pointer (some ⟨M,0,none⟩) ∧ w' = W) (by simp [gives,go_sem,e0,d0]) fun _ _ ⟨h1,h2⟩ => by subst h2; exact ⟨.inr ⟨by decide,h1⟩,Below.refl _ _⟩
    case h1 =>
      refine OpOk.plain (by kernel_rfl) _ rfl rfl fun vs ev W hf hb hd => ?_
      have e0 : ev (.tmp 10) = .pointer (some ⟨M,0,none⟩) := (hf.of 0 _ 10 rfl rfl rfl (of_decide_eq_true rfl)).trans ((hd 0 (by kernel_rfl)).val (by decide))
      clear hK
      exact gives_mono (R := fun v w' => v = .pointer (some ⟨M,0,none⟩) ∧ w' = W) (by simp [gives,go_sem,e0]) fun _ _ ⟨h1,h2⟩ => by subst h2; exact ⟨.inr ⟨by decide,h1⟩,Below.refl _ _⟩
    case h2 =>
      refine OpOk.plain (by kernel_rfl) _ rfl rfl fun vs ev W hf hb hd => ?_
      have e0 : ev (.tmp 11) = .pointer (some ⟨M,0,none⟩) := (hf.of 1 _ 11 rfl rfl rfl (of_decide_eq_true rfl)).trans ((hd 1 (by kernel_rfl)).val (by decide))
      clear hK
      exact gives_mono (R := fun v w' => v = .pointer (some ⟨M,7,none⟩) ∧ w' = W) (by simp [gives,go_sem,e0]) fun _ _ ⟨h1,h2⟩ => by subst h2; exact ⟨.inr ⟨by decide,h1⟩,Below.refl _ _⟩
    case h3 =>
      refine OpOk.plain (by kernel_rfl) _ rfl rfl fun vs ev W hf hb hd => ?_
      have e0 : ev (.tmp 12) = .pointer (some ⟨M,7,none⟩) := (hf.of 2 _ 12 rfl rfl rfl (of_decide_eq_true rfl)).trans ((hd 2 (by kernel_rfl)).val (by decide))
      clear hK
      exact gives_mono (R := fun v w' => v = .pointer (some ⟨M,7,none⟩) ∧ w' = W) (by simp [gives,go_sem,e0]) fun _ _ ⟨h1,h2⟩ => by subst h2; exact ⟨.inr ⟨by decide,h1⟩,Below.refl _ _⟩
    case h4 =>
      refine OpOk.plain (by kernel_rfl) _ rfl rfl fun vs ev W hf hb hd => ?_
      have e0 : ev (.tmp 13) = .pointer (some ⟨M,7,none⟩) := (hf.of 3 _ 13 rfl rfl rfl (of_decide_eq_true rfl)).trans ((hd 3 (by kernel_rfl)).val (by decide))
      have d0 := (HF.out W hb).2.1
      clear hK
      exact gives_mono (R := fun v w' => v = .slice (some ⟨g,0,none⟩) n cap ∧ w' = W) (by simp [gives,go_sem,e0,d0]) fun _ _ ⟨h1,h2⟩ => by subst h2; exact ⟨.inr ⟨by decide,h1⟩,Below.refl _ _⟩
    case h5 =>
      refine OpOk.plain (by kernel_rfl) _ rfl rfl fun vs ev W hf hb hd => ?_
      have e0 : ev (.tmp 4) = .pointer (some ⟨w.heap.size,0,none⟩) := hf.off 4 rfl
      clear hK
      exact gives_mono (R := fun v w' => v = .pointer (some ⟨w.heap.size,1,none⟩) ∧ w' = W) (by simp [gives,go_sem,e0]) fun _ _ ⟨h1,h2⟩ => by subst h2; exact ⟨.inr ⟨by decide,h1⟩,Below.refl _ _⟩
    case h6 =>
      refine OpOk.plain (by kernel_rfl) _ rfl rfl fun vs ev W hf hb hd => ?_
      have e0 : ev (.tmp 15) = .pointer (some ⟨w.heap.size,1,none⟩) := (hf.of 5 _ 15 rfl rfl rfl (of_decide_eq_true rfl)).trans ((hd 5 (by kernel_rfl)).val (by decide))
      have d0 := (HF.out W hb).2.2.1
      clear hK
      exact gives_mono (R := fun v w' => v = .int .i64 o ∧ w' = W) (by simp [gives,go_sem,e0,d0]) fun _ _ ⟨h1,h2⟩ => by subst h2; exact ⟨.inr ⟨by decide,h1⟩,Below.refl _ _⟩
    case h7 =>
      refine OpOk.plain (by kernel_rfl) _ rfl rfl fun vs ev W hf hb hd => ?_
      have e0 : ev (.tmp 14) = .slice (some ⟨g,0,none⟩) n cap := (hf.of 4 _ 14 rfl rfl rfl (of_decide_eq_true rfl)).trans ((hd 4 (by kernel_rfl)).val (by decide))
      have e1 : ev (.tmp 16) = .int .i64 o := (hf.of 6 _ 16 rfl rfl rfl (of_decide_eq_true rfl)).trans ((hd 6 (by kernel_rfl)).val (by decide))
      clear hK
      exact gives_mono (R := fun v w' => v = .pointer (some ⟨g,o * 8,none⟩) ∧ w' = W) (by simp [gives,go_sem,e0,e1,hi0,hi1]) fun _ _ ⟨h1,h2⟩ => by subst h2; exact ⟨.inr ⟨by decide,h1⟩,Below.refl _ _⟩
    case h8 =>
      refine OpOk.plain (by kernel_rfl) _ rfl rfl fun vs ev W hf hb hd => ?_
      have e0 : ev (.tmp 17) = .pointer (some ⟨g,o * 8,none⟩) := (hf.of 7 _ 17 rfl rfl rfl (of_decide_eq_true rfl)).trans ((hd 7 (by kernel_rfl)).val (by decide))
      obtain ⟨d0,d1,d2,d3,d4,d5,d6,d7⟩ := (HF.out W hb).2.2.2
      clear hK
      exact gives_mono (R := fun v w' => v = .agg #[.slice na nn nc,.slice ra rn rc,.int .i64 x0,.int .i64 y0,.int .i64 x1,.int .i64 y1,.int .i64 so,.int .i64 lo] ∧ w' = W) (by simp [gives,go_sem,e0,d0,d1,d2,d3,d4,d5,d6,d7]) fun _ _ ⟨h1,h2⟩ => by subst h2; exact ⟨.inr ⟨by decide,h1⟩,Below.refl _ _⟩
    case h9 =>
      refine OpOk.plain (by kernel_rfl) _ rfl rfl fun vs ev W hf hb hd => ?_
      clear hK
      refine gives_mono (R := fun v w' => v = .pointer (some ⟨W.heap.size,0,none⟩) ∧ w' = W.alloc (.cells #[.slice none 0 0,.slice none 0 0,.int .i64 0,.int .i64 0,.int .i64 0,.int .i64 0,.int .i64 0,.int .i64 0] 37)) (by simp [gives,go_sem]) ?_
      rintro _ _ ⟨rfl,rfl⟩
      exact ⟨.inl ⟨rfl,_,hb.size,rfl,Box.new W _ _⟩,below_alloc _ _⟩
  case hlast =>
  intro vs W hb hT
  have t8 := (hT 8 (by decide)).val (by decide)
  obtain ⟨q,hq1,hq2,hq3⟩ := (hT 9 (by decide)).made
  refine last_plain (by kernel_rfl) rfl fun F ev hF hf => ?_
  have e1 := (hf.of 8 _ 18 rfl rfl rfl (of_decide_eq_true rfl)).trans t8
  have e2 := (hf.of 9 _ 6 rfl rfl rfl (of_decide_eq_true rfl)).trans hq2
  obtain ⟨q0,q1,q2,q3,q4,q5,q6,q7⟩ : PC W q 0 (.slice none 0 0) (.slice none 0 0) ⟨[],[],⟨0,0,0,0⟩,0,0⟩ := box8 hq3
  have f0 := hq3.frozen 0
  have f1 := hq3.frozen 1
  have f2 := hq3.frozen 2
  have f3 := hq3.frozen 3
  have f4 := hq3.frozen 4
  have f5 := hq3.frozen 5
  have f6 := hq3.frozen 6
  have f7 := hq3.frozen 7
  have H8 : Hid (Below w.heap.size w ((((((((W.setCell ⟨q,0,none⟩ (.slice na nn nc)).setCell ⟨q,1,none⟩ (.slice ra rn rc)).setCell ⟨q,2,none⟩ (.int .i64 x0)).setCell ⟨q,3,none⟩ (.int .i64 y0)).setCell ⟨q,4,none⟩ (.int .i64 x1)).setCell ⟨q,5,none⟩ (.int .i64 y1)).setCell ⟨q,6,none⟩ (.int .i64 so)).setCell ⟨q,7,none⟩ (.int .i64 lo)) ∧ PC ((((((((W.setCell ⟨q,0,none⟩ (.slice na nn nc)).setCell ⟨q,1,none⟩ (.slice ra rn rc)).setCell ⟨q,2,none⟩ (.int .i64 x0)).setCell ⟨q,3,none⟩ (.int .i64 y0)).setCell ⟨q,4,none⟩ (.int .i64 x1)).setCell ⟨q,5,none⟩ (.int .i64 y1)).setCell ⟨q,6,none⟩ (.int .i64 so)).setCell ⟨q,7,none⟩ (.int .i64 lo)) q 0 (.slice na nn nc) (.slice ra rn rc) ⟨ns,rs,⟨x0,y0,x1,y1⟩,so,lo⟩) :=
    ⟨below_set8 (HB1.out.trans (hb.mono HB1.out.size)) (Nat.le_trans HB1.out.size hq1) _ _ _ _ _ _ _ _,box8 (set8_box hq3 _ _ _ _ _ _ _ _)⟩
  refine gives_mono (R := fun v w' => v = undef ∧ w' = ((((((((W.setCell ⟨q,0,none⟩ (.slice na nn nc)).setCell ⟨q,1,none⟩ (.slice ra rn rc)).setCell ⟨q,2,none⟩ (.int .i64 x0)).setCell ⟨q,3,none⟩ (.int .i64 y0)).setCell ⟨q,4,none⟩ (.int .i64 x1)).setCell ⟨q,5,none⟩ (.int .i64 y1)).setCell ⟨q,6,none⟩ (.int .i64 so)).setCell ⟨q,7,none⟩ (.int .i64 lo))) (by simp [gives,go_sem,e1,e2,q0,q1,q2,q3,q4,q5,q6,q7,f0,f1,f2,f3,f4,f5,f6,f7]) ?_
  rintro _ _ ⟨rfl,rfl⟩
  subst hF
  simp [fr,Act.put,t8,hq2]
  generalize vs 0 = u0 at *
  generalize vs 1 = u1 at *
  generalize vs 2 = u2 at *
  generalize vs 3 = u3 at *
  generalize vs 4 = u4 at *
  generalize vs 5 = u5 at *
  generalize vs 6 = u6 at *
  generalize vs 7 = u7 at *
  generalize vs 8 = u8 at *
  generalize vs 9 = u9 at *
  clear hT hf t8 e1 e2 hq2
  refine hK _ _ ?_
  clear hK q0 q1 q2 q3 q4 q5 q6 q7 f0 f1 f2 f3 f4 f5 f6 f7 hb hq1 hq3 HF HB1
  generalize ((((((((W.setCell ⟨q,0,none⟩ (.slice na nn nc)).setCell ⟨q,1,none⟩ (.slice ra rn rc)).setCell ⟨q,2,none⟩ (.int .i64 x0)).setCell ⟨q,3,none⟩ (.int .i64 y0)).setCell ⟨q,4,none⟩ (.int .i64 x1)).setCell ⟨q,5,none⟩ (.int .i64 y1)).setCell ⟨q,6,none⟩ (.int .i64 so)).setCell ⟨q,7,none⟩ (.int .i64 lo)) = W8 at *
  clear W
  obtain ⟨a0,a1,a2,a3,a4,a5,a6,a7⟩ := H8.out.2
  obtain ⟨g0,b0,b1,b2,b3,b4,b5,b6,b7⟩ := HG.out W8 H8.out.1
  have a0 : W8.cell? ⟨q,0,none⟩ = some (.slice na nn nc) := a0
  have a1 : W8.cell? ⟨q,1,none⟩ = some (.slice ra rn rc) := a1
  have a2 : W8.cell? ⟨q,2,none⟩ = some (.int .i64 x0) := a2
  have a3 : W8.cell? ⟨q,3,none⟩ = some (.int .i64 y0) := a3
  have a4 : W8.cell? ⟨q,4,none⟩ = some (.int .i64 x1) := a4
  have a5 : W8.cell? ⟨q,5,none⟩ = some (.int .i64 y1) := a5
  have a6 : W8.cell? ⟨q,6,none⟩ = some (.int .i64 so) := a6
  have a7 : W8.cell? ⟨q,7,none⟩ = some (.int .i64 lo) := a7
  have b1 : W8.cell? ⟨pb,1,none⟩ = some (.slice rca pr rcc) := b1
  have b2 : W8.cell? ⟨pb,2,none⟩ = some (.int .i64 x0') := b2
  have b3 : W8.cell? ⟨pb,3,none⟩ = some (.int .i64 y0') := b3
  have b4 : W8.cell? ⟨pb,4,none⟩ = some (.int .i64 x1') := b4
  have b5 : W8.cell? ⟨pb,5,none⟩ = some (.int .i64 y1') := b5
  have HA : Hid (∀ s : Kept W8.heap.size W8,Calls Tryz.prog 77 #[.agg #[.slice na nn nc,.slice ra rn rc,.int .i64 x0,.int .i64 y0,.int .i64 x1,.int .i64 y1,.int .i64 so,.int .i64 lo]] s.w (PPost s.w (.int .i64 (res : Nat)))) := fun s => HRES.out s.w (H8.out.1.trans (s.below.mono H8.out.1.size))
  have HC : Hid (∀ s : Kept W8.heap.size W8,Calls Tryz.prog 50 #[.slice rca pr rcc,.int .i64 (res : Nat)] s.w (PPost s.w (.bool con))) := fun s => HCON.out s.w (H8.out.1.trans (s.below.mono H8.out.1.size))
  have k0 := fun s : Kept W8.heap.size W8 => s.at a0
  have k1 := fun s : Kept W8.heap.size W8 => s.at a1
  have k2 := fun s : Kept W8.heap.size W8 => s.at a2
  have k3 := fun s : Kept W8.heap.size W8 => s.at a3
  have k4 := fun s : Kept W8.heap.size W8 => s.at a4
  have k5 := fun s : Kept W8.heap.size W8 => s.at a5
  have k6 := fun s : Kept W8.heap.size W8 => s.at a6
  have k7 := fun s : Kept W8.heap.size W8 => s.at a7
  have j1 := fun s : Kept W8.heap.size W8 => s.at b1
  have j2 := fun s : Kept W8.heap.size W8 => s.at b2
  have j3 := fun s : Kept W8.heap.size W8 => s.at b3
  have j4 := fun s : Kept W8.heap.size W8 => s.at b4
  have j5 := fun s : Kept W8.heap.size W8 => s.at b5
  have i0 := fun s : Kept W8.heap.size W8 => s.at g0
  have HB8 : Hid (Below w.heap.size w W8) := H8.out.1
  clear a0 a1 a2 a3 a4 a5 a6 a7 g0 b0 b1 b2 b3 b4 b5 b6 b7 H8 HG HRES HCON
  by_cases hl : lo = (at_ : Int)
  · subst hl
    have hq := eqlRc ⟨x0,y0,x1,y1⟩ ⟨x0',y0',x1',y1'⟩
    obtain ⟨bx,hbx⟩ : ∃ b,b = rcEq ⟨x0,y0,x1,y1⟩ ⟨x0',y0',x1',y1'⟩ := ⟨_,rfl⟩
    rw [← hbx] at hq HE
    rw [decide_eq_true rfl,Bool.true_and] at HE
    clear hbx
    cases bx with
    | true =>
      go_wp2_with fail
      refine wp_region_kept W8.heap.size (by kernel_rfl) (by kernel_rfl) ?_
      repeat (go_big_quiet_step (first | (go_at_call 77; with_reducible exact Calls.kept _ (Nat.le_refl _) (HA.out _)) | (go_at_call 50; with_reducible exact Calls.kept _ (Nat.le_refl _) (HC.out _))))
      refine wpQuiet_nil ?_
      rintro _ ⟨s,rfl⟩
      have HB : Hid (Below w.heap.size w s.w) := HB8.out.trans (s.below.mono HB8.out.size)
      clear HA HC hq
      go_wp2_with fail
      go_ret
      exact ⟨ret_b HE.out.symm,HB.out⟩
    | false =>
      go_wp2_with fail
      refine wp_region_kept W8.heap.size (by kernel_rfl) (by kernel_rfl) ?_
      repeat (go_big_quiet_step (fail))
      refine wpQuiet_nil ?_
      rintro _ ⟨s,rfl⟩
      have HB : Hid (Below w.heap.size w s.w) := HB8.out.trans (s.below.mono HB8.out.size)
      clear HA HC hq
      go_wp2_with fail
      go_ret
      exact ⟨ret_b HE.out.symm,HB.out⟩
  · have hl2 : (lo == (at_ : Int)) = false := beq_eq_false_iff_ne.2 hl
    rw [decide_eq_false hl,Bool.false_and] at HE
    clear hl
    go_wp2_with fail
    refine wp_region_kept W8.heap.size (by kernel_rfl) (by kernel_rfl) ?_
    repeat (go_big_quiet_step (fail))
    refine wpQuiet_nil ?_
    rintro _ ⟨s,rfl⟩
    have HB : Hid (Below w.heap.size w s.w) := HB8.out.trans (s.below.mono HB8.out.size)
    clear HA HC
    go_wp2_with fail
    go_ret
    exact ⟨ret_b HE.out.symm,HB.out⟩
end Go.Proofs.YtaoamkbcegadcaaGreatDoor
