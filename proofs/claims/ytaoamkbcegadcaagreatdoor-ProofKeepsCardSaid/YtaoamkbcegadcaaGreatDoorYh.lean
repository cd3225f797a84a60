/- Texts joined: XYh. -/
import Derived.Test.YtaoamkbcegadcaaGreatDoorYg
import Derived.Test.YtaoamkbcegadcaaGreatDoorYp
import Derived.Test.YtaoamkbcegadcaaGreatDoorAc
set_option maxRecDepth 4000
/- Layer 19: find. (Printed by mk_yh.py.) -/
namespace Go.Proofs.YtaoamkbcegadcaaGreatDoor
open Go.RowKit Go.Bx Go.Od Go.Hp
attribute [local go_sem ↓] Go.wp_at_zero Go.wp_at_succ
set_option linter.unusedVariables false

theorem news_at {W : World} {g : Nat} {news : List Value} {et : TypeId} (h : W.heap[g]? = some (.cells news.toArray et (0, 0))) (j : Nat) (u : Value) (hj : news[j]? = some u) : W.cell? ((⟨g, 0, none⟩ : Addr).add j) = some u := by
  have h2 : Box W g news := ⟨_, h⟩
  rw [Go.WideShapes.add_plain, Nat.zero_add]
  exact h2.cell j hj
/-- a slot found -/
def FdPost (w0 : World) (M : Nat) (nv : Value) (out : Int) (c : Cf) (pl : List (Value × Value × Ps)) (pv : Value) (src : Rc) (sn pk : Int) (f : Int × List (Int × Int)) (e : Ending) (w' : World) : Prop := e = .returned (.int .i64 f.1) ∧ ∃ sv', MS w0 M nv out c pl pv src sn pk f.2 sv' w'
set_option maxRecDepth 4000 in
set_option maxHeartbeats 6400000 in
theorem find_c {w0 : World} {M : Nat} {nv pv sv : Value} {out : Int} {c : Cf} {pl : List (Value × Value × Ps)} {src : Rc} {sn pk : Int} {sl : List (Int × Int)} (nds : List Nd) (at_ : Nat) (w : World) (hm : MS w0 M nv out c pl pv src sn pk sl sv w) (hg : Gr w.heap.size w nv nds) (hn100 : nds.length ≤ 100) (hat : at_ < pl.length) (hok : ∀ x ∈ psl pl, POk x) (hnd : ∀ x ∈ psl pl, ∀ k ∈ x.nodes, k < nds.length) (hlt : ∀ s ∈ sl, s.2 < pl.length) (hl : sl.length ≤ 100) :
    Calls Tryz.prog 32 #[.pointer (some ⟨M, 0, none⟩), .int .i64 at_] w (FdPost w0 M nv out c pl pv src sn pk (findS nds c (psl pl) at_ sl)) := by
  obtain ⟨y, hy⟩ : ∃ y, y = (psl pl).getD at_ Ps.none := ⟨_, rfl⟩
  have hym : y ∈ psl pl := by rw [hy]; exact List.mem_of_getElem? (show (psl pl)[at_]? = some ((psl pl).getD at_ Ps.none) by simp [psl, hat])
  have hyo : POk y := hok _ hym
  obtain ⟨g, cap, na, nc, ra, rc, hpv, hgB, hgl, hmx, hfz, hpc, ho1, ho2⟩ := hm.prs.at hat hy
  have c7 := hm.box.cell 7 rfl
  rw [hpv] at c7
  obtain ⟨nn, hnn⟩ : ∃ n, n = y.nodes.length := ⟨_, rfl⟩
  obtain ⟨rn, hrn⟩ : ∃ n, n = y.reads.length := ⟨_, rfl⟩
  obtain ⟨pn, hpn⟩ : ∃ n, n = pl.length := ⟨_, rfl⟩
  rw [← hnn, ← hrn] at hpc
  rw [← hpn] at c7 hmx
  have hsz := size_c na nn nc ra rn rc y w hyo.2.2.2
  obtain ⟨n, hn⟩ : ∃ n, n = szP y := ⟨_, rfl⟩
  rw [← hn] at hsz
  have HIN := fun W (hb : Below w.heap.size w W) => inPlace_c nds at_ W (hm.call hb) ((hg.below hb (Nat.le_refl _)).mono hb.size) hn100 hat hok hnd hlt (by omega)
  obtain ⟨ip, hip⟩ : ∃ k, k = inPlace nds (psl pl) at_ sl := ⟨_, rfl⟩
  obtain ⟨fi, hfi⟩ : ∃ k, k = fIdx (free n) sl := ⟨_, rfl⟩
  have HLE := fun W (hb : Below w.heap.size w W) (z : Nat) (hz : Box W z [.int .i64 n]) => least_c 57 #[.pointer (some ⟨z, 0, none⟩)] (free n) W (hm.call hb) (enters_of Tryz.func57 (by kernel_rfl) rfl) (by omega) (fun W2 x hW hx => free_c n z x W2 ((hz.call hW).cell 0 rfl))
  rw [← hip] at HIN
  rw [← hfi] at HLE
  have HIN : Hid _ := HIN
  have HLE : Hid _ := HLE
  have HFS : Hid (findS nds c (psl pl) at_ sl = if c.al = true ∧ 0 ≤ ip then (ip, sl) else if c.al = true ∧ 0 ≤ fi then (fi, sl) else (sl.length, sl ++ [(n, 0)])) := by
    have : findS nds c (psl pl) at_ sl = if c.al = true ∧ 0 ≤ ip then (ip, sl) else if c.al = true ∧ 0 ≤ fi then (fi, sl) else (sl.length, sl ++ [(n, 0)]) := by
      unfold findS
      rw [← hy, ← hn, ← hfi, ← hip]
    exact this
  have c3 := hm.box.cell 3 rfl
  have hi0 : (0 : Int) ≤ (at_ : Int) := by omega
  have hi1 : (at_ : Int) < (pn : Int) := by omega
  have HMS : Hid (MS w0 M nv out c pl pv src sn pk sl sv w) := hm
  have HSF : Hid (∃ a c', sv = .slice a sl.length c') := by
    have : ∃ a c', sv = .slice a sl.length c' := by obtain ⟨a, c', h, _⟩ := scs_cell hm.sr; exact ⟨a, c', h⟩
    exact this
  obtain ⟨sn0, hsn0⟩ : ∃ k, k = sl.length := ⟨_, rfl⟩
  have HSN : Hid (sl.length = sn0 ∧ sn0 + 1 ≤ maxLen ∧ (sn0 + 1) * 16 ≤ 140737488355328) := by
    have : sl.length = sn0 ∧ sn0 + 1 ≤ maxLen ∧ (sn0 + 1) * 16 ≤ 140737488355328 := ⟨hsn0.symm, by unfold maxLen; omega, by omega⟩
    exact this
  have HBKa : Hid (∀ k, sv.ownBlock = some k → k < w.heap.size) := fun k hk => (World.ownsRow.lt hm.sr k hk).2
  rw [← hsn0] at HSF
  obtain ⟨fu, al, ro, da, rm⟩ := c
  dsimp only at c3 HFS
  obtain ⟨ns, rs, ⟨x0, y0, x1, y1⟩, so, lo⟩ := y
  obtain ⟨a0, a1, a2, a3, a4, a5, a6, a7⟩ := hpc
  dsimp only at a2 a3 a4 a5 a6 a7
  have HC3 : Hid (∀ W, Below w.heap.size w W → W.cell? ⟨M, 3, none⟩ = some (.bool al)) := fun W hb => (hb.cell (lt_of_cell c3)).trans c3
  obtain ⟨fs, hfs⟩ : ∃ f, f = findS nds ⟨fu, al, ro, da, rm⟩ (psl pl) at_ sl := ⟨_, rfl⟩
  rw [← hfs] at HFS ⊢
  have hpn1 : pn ≤ 2 ^ 63 - 1 := by unfold maxLen at hmx; exact hmx
  clear hm hg hok hnd hlt hn100 hat hy hym hyo hpv hgB hgl hfz ho1 ho2 hnn hrn hpn hn hip hfi hfs c3 hmx hl hsn0
  go_enter Tryz.func32, Tryz.ntmps32
  go_wp2_with fail
  refine hsz.mono ?_; rintro e w1 ⟨rfl, hb1⟩
  clear a0 a1 a2 a3 a4 a5 a6 a7 c7 hsz
  obtain ⟨z, hz⟩ : ∃ z, z = w1.heap.size := ⟨_, rfl⟩
  have hb2 : Below w.heap.size w (w1.alloc (.cells #[.int .i64 n] 3)) := hb1.trans ((below_new w1 (.cells #[.int .i64 n] 3)).mono hb1.size)
  have HX : Hid (Below w.heap.size w (w1.alloc (.cells #[.int .i64 n] 3)) ∧ Box (w1.alloc (.cells #[.int .i64 n] 3)) z [.int .i64 n]) := ⟨hb2, by rw [hz]; exact Box.new w1 [.int .i64 n] _⟩
  have HBK : Hid ((∀ k, sv.ownBlock = some k → k < w.heap.size) ∧ w.heap.size ≤ z) := ⟨HBKa.out, by rw [hz]; exact hb1.size⟩
  have c3 := HC3.out _ HX.out.1
  clear hb1 hb2 HBKa
  cases al with
  | false =>
    have HE3 : Hid (fs.1 = (sn0 : Int) ∧ fs.2 = sl ++ [(n, 0)]) := by
      have : fs = ((sl.length : Int), sl ++ [(n, 0)]) := by rw [HFS.out]; simp
      have : fs.1 = (sn0 : Int) ∧ fs.2 = sl ++ [(n, 0)] := by rw [this, HSN.out.1]; exact ⟨rfl, rfl⟩
      exact this
    clear HFS HIN HLE HC3 hi0 hi1 hpn1
    go_wp2_with fail
    rename_i K hK
    obtain ⟨W5, hW5⟩ : ∃ W, W = w1.alloc (.cells #[.int .i64 n] 3) := ⟨_, rfl⟩
    rw [← hz]
    rw [← hW5] at HX c3 ⊢
    clear hW5 hz
    obtain ⟨n2, hn2⟩ : ∃ n, n = W5.heap.size := ⟨_, rfl⟩
    have HBK2 : Hid (w.heap.size ≤ n2) := by
      have : w.heap.size ≤ n2 := by rw [hn2]; exact HX.out.1.size
      exact this
    have HX0 := HX
    clear HX
    have HX : Hid (MS w0 M nv out ⟨fu, false, ro, da, rm⟩ pl pv src sn pk sl sv W5 ∧ Box W5 z [.int .i64 n] ∧ n2 ≤ W5.heap.size) := ⟨HMS.out.call HX0.out.1, HX0.out.2, Nat.le_of_eq hn2⟩
    clear hn2 HX0 HMS
    refine wp_region_last (fun W => MS w0 M nv out ⟨fu, false, ro, da, rm⟩ pl pv src sn pk sl sv W ∧ Box W z [.int .i64 n] ∧ n2 ≤ W.heap.size) (ApT [.pointer (some ⟨M, 0, none⟩), .pointer (some ⟨M, 0, none⟩), .pointer (some ⟨M, 0, none⟩), .pointer (some ⟨M, 14, none⟩), sv, .int .i64 n, .agg #[.int .i64 n, .int .i64 0], undef, undef, .pointer (some ⟨M, 0, none⟩), .pointer (some ⟨M, 14, none⟩)] 7 8 n2 [.int .i64 n, .int .i64 0] 73 w0.heap.size 2 sn0 (scs sl)) 11 _ rfl rfl (by kernel_rfl) (by kernel_rfl) ⟨HX.out.1.call ((Below.refl _ _).drew), HX.out.2.1.call ((Below.refl _ _).drew), HX.out.2.2⟩ ?hop ?hlast
    case hop =>
      refine Each.get (n := 11) ⟨⟨⟨⟨⟨⟨⟨⟨⟨⟨⟨trivial, ?h0⟩, ?h1⟩, ?h2⟩, ?h3⟩, ?h4⟩, ?h5⟩, ?h6⟩, ?h7⟩, ?h8⟩, ?h9⟩, ?h10⟩
      case h0 =>
        refine OpIs.plain (by kernel_rfl) _ rfl rfl fun vs ev W hf hI hd => ?_
        have e0 : ev (.tmp 0) = .pointer (some ⟨M, 0, none⟩) := hf.off 0 rfl
        clear hK
        exact gives_pure (v := .pointer (some ⟨M, 0, none⟩)) hI (by simp [gives, go_sem, e0]) (.inr (.inr ⟨by decide, by decide, rfl⟩))
      case h1 =>
        refine OpIs.plain (by kernel_rfl) _ rfl rfl fun vs ev W hf hI hd => ?_
        have e0 : ev (.tmp 0) = .pointer (some ⟨M, 0, none⟩) := hf.off 0 rfl
        clear hK
        exact gives_pure (v := .pointer (some ⟨M, 0, none⟩)) hI (by simp [gives, go_sem, e0]) (.inr (.inr ⟨by decide, by decide, rfl⟩))
      case h2 =>
        refine OpIs.plain (by kernel_rfl) _ rfl rfl fun vs ev W hf hI hd => ?_
        have e0 : ev (.tmp 35) = .pointer (some ⟨M, 0, none⟩) := (hf.of 1 _ 35 rfl rfl rfl (of_decide_eq_true rfl)).trans ((hd 1 (by kernel_rfl)).val (by decide) (by decide))
        clear hK
        exact gives_pure (v := .pointer (some ⟨M, 0, none⟩)) hI (by simp [gives, go_sem, e0]) (.inr (.inr ⟨by decide, by decide, rfl⟩))
      case h3 =>
        refine OpIs.plain (by kernel_rfl) _ rfl rfl fun vs ev W hf hI hd => ?_
        have e0 : ev (.tmp 36) = .pointer (some ⟨M, 0, none⟩) := (hf.of 2 _ 36 rfl rfl rfl (of_decide_eq_true rfl)).trans ((hd 2 (by kernel_rfl)).val (by decide) (by decide))
        clear hK
        exact gives_pure (v := .pointer (some ⟨M, 14, none⟩)) hI (by simp [gives, go_sem, e0]) (.inr (.inr ⟨by decide, by decide, rfl⟩))
      case h4 =>
        refine OpIs.plain (by kernel_rfl) _ rfl rfl fun vs ev W hf hI hd => ?_
        have e0 : ev (.tmp 37) = .pointer (some ⟨M, 14, none⟩) := (hf.of 3 _ 37 rfl rfl rfl (of_decide_eq_true rfl)).trans ((hd 3 (by kernel_rfl)).val (by decide) (by decide))
        have d0 := hI.1.box.cell 14 rfl
        clear hK
        exact gives_pure (v := sv) hI (by simp [gives, go_sem, e0, d0]) (.inr (.inr ⟨by decide, by decide, rfl⟩))
      case h5 =>
        refine OpIs.plain (by kernel_rfl) _ rfl rfl fun vs ev W hf hI hd => ?_
        have e0 : ev (.tmp 5) = .pointer (some ⟨z, 0, none⟩) := hf.off 5 rfl
        have d0 := hI.2.1.cell 0 rfl
        clear hK
        exact gives_pure (v := .int .i64 n) hI (by simp [gives, go_sem, e0, d0]) (.inr (.inr ⟨by decide, by decide, rfl⟩))
      case h6 =>
        refine OpIs.plain (by kernel_rfl) _ rfl rfl fun vs ev W hf hI hd => ?_
        have e0 : ev (.tmp 39) = .int .i64 n := (hf.of 5 _ 39 rfl rfl rfl (of_decide_eq_true rfl)).trans ((hd 5 (by kernel_rfl)).val (by decide) (by decide))
        clear hK
        exact gives_pure (v := .agg #[.int .i64 n, .int .i64 0]) hI (by simp [gives, go_sem, e0]) (.inr (.inr ⟨by decide, by decide, rfl⟩))
      case h7 =>
        refine OpIs.plain (by kernel_rfl) _ rfl rfl fun vs ev W hf hI hd => ?_
        have e0 : ev (.tmp 40) = .agg #[.int .i64 n, .int .i64 0] := (hf.of 6 _ 40 rfl rfl rfl (of_decide_eq_true rfl)).trans ((hd 6 (by kernel_rfl)).val (by decide) (by decide))
        clear hK
        refine gives_mono (R := fun v w' => v = .slice (some ⟨W.heap.size, 0, none⟩) 1 1 ∧ w' = W.alloc (.cells #[.int .i64 n, .int .i64 0] 73)) (by simp [gives, go_sem, e0]) ?_
        rintro _ _ ⟨rfl, rfl⟩
        have hb := below_alloc W (.cells #[.int .i64 n, .int .i64 0] 73)
        exact ⟨.inl ⟨rfl, _, rfl, hI.2.2, alloc_at W _⟩, ⟨hI.1.call hb, hI.2.1.call hb, Nat.le_trans hI.2.2 hb.size⟩, fun j u _ h => h.below hb⟩
      case h8 =>
        refine OpIs.plain (by kernel_rfl) _ rfl rfl fun vs ev W hf hI hd => ?_
        have e0 : ev (.tmp 38) = sv := (hf.of 4 _ 38 rfl rfl rfl (of_decide_eq_true rfl)).trans ((hd 4 (by kernel_rfl)).val (by decide) (by decide))
        obtain ⟨gb, b1, b2, b3⟩ := (hd 7 (by kernel_rfl)).newv (by decide)
        have e1 := (hf.of 7 _ 41 rfl rfl rfl (of_decide_eq_true rfl)).trans b1
        obtain ⟨i3, hi3, hz0, hz1, hz2⟩ := info_parts infoSlot
        obtain ⟨a', c', W', hr, ho, hold, hg⟩ := app_keep (P := Tryz.prog) 49 73 i3 (.agg #[.int .i64 0, .int .i64 0]) 2 16 Tryz.underlying49 hi3 hz0 hz1 hz2 rfl (by decide) sv sn0 (scs sl) (HSN.out.1 ▸ hI.1.sr) ⟨gb, 0, none⟩ 1 1 [.int .i64 n, .int .i64 0] rfl (news_at b3) (by intro u hu; simp at hu; rcases hu with rfl | rfl <;> rfl) (by decide) HSN.out.2.1 HSN.out.2.2 (hI.1.below.size)
        have hbl := (fun (k : Nat) (hk : sv.ownBlock = some k) => Nat.lt_of_lt_of_le (HBK.out.1 k hk) HBK2.out)
        obtain ⟨ra0, rc0, hrow⟩ := HSF.out
        have hI' := (⟨hI.1.app hg (HSN.out.1 ▸ hold), hI.2.1.grown' hg (fun e => by have := HBK.out.1 z e; have := HBK.out.2; omega), Nat.le_trans hI.2.2 hg.size⟩ : MS w0 M nv out ⟨fu, false, ro, da, rm⟩ pl pv src sn pk sl sv W' ∧ Box W' z [.int .i64 n] ∧ n2 ≤ W'.heap.size)
        clear hK
        refine gives_mono (R := fun v w' => v = .slice (some ⟨a', 0, none⟩) (sn0 + 1) c' ∧ w' = W') (by unfold gives; rw [hrow] at hr e0; simp [execOp, resolve, invoke, builtin, e0, e1, hr, Result.andThen]) ?_
        rintro _ _ ⟨rfl, rfl⟩
        exact ⟨.inr (.inl ⟨rfl, _, _, rfl, ho⟩), hI', fun j u hj h => h.grow hj hg hbl⟩
      case h9 =>
        refine OpIs.plain (by kernel_rfl) _ rfl rfl fun vs ev W hf hI hd => ?_
        have e0 : ev (.tmp 34) = .pointer (some ⟨M, 0, none⟩) := (hf.of 0 _ 34 rfl rfl rfl (of_decide_eq_true rfl)).trans ((hd 0 (by kernel_rfl)).val (by decide) (by decide))
        clear hK
        exact gives_pure (v := .pointer (some ⟨M, 0, none⟩)) hI (by simp [gives, go_sem, e0]) (.inr (.inr ⟨by decide, by decide, rfl⟩))
      case h10 =>
        refine OpIs.plain (by kernel_rfl) _ rfl rfl fun vs ev W hf hI hd => ?_
        have e0 : ev (.tmp 43) = .pointer (some ⟨M, 0, none⟩) := (hf.of 9 _ 43 rfl rfl rfl (of_decide_eq_true rfl)).trans ((hd 9 (by kernel_rfl)).val (by decide) (by decide))
        clear hK
        exact gives_pure (v := .pointer (some ⟨M, 14, none⟩)) hI (by simp [gives, go_sem, e0]) (.inr (.inr ⟨by decide, by decide, rfl⟩))
    case hlast =>
      intro vs W hI hT
      obtain ⟨ga, ca, r1, r2⟩ := (hT 8 (by decide)).row (by decide)
      rw [r1] at r2
      have t10 := (hT 10 (by decide)).val (by decide) (by decide)
      refine last_plain (by kernel_rfl) rfl fun F ev hF hf => ?_
      have e1 := (hf.of 8 _ 42 rfl rfl rfl (of_decide_eq_true rfl)).trans r1
      have e2 : ev (.tmp 44) = .pointer (some ⟨M, 14, none⟩) := (hf.of 10 _ 44 rfl rfl rfl (of_decide_eq_true rfl)).trans t10
      have c14 := hI.1.box.cell 14 rfl
      have f14 := hI.1.box.frozen 14
      have HR : Hid (MS w0 M nv out ⟨fu, false, ro, da, rm⟩ pl pv src sn pk (sl ++ [(n, 0)]) (.slice (some ⟨ga, 0, none⟩) (sn0 + 1) ca) (W.setCell ⟨M, 14, none⟩ (.slice (some ⟨ga, 0, none⟩) (sn0 + 1) ca))) := hI.1.putSl (by
        rw [scs_app, List.length_append, HSN.out.1]
        exact r2)
      refine gives_mono (R := fun v w' => v = undef ∧ w' = W.setCell ⟨M, 14, none⟩ (.slice (some ⟨ga, 0, none⟩) (sn0 + 1) ca)) (by simp [gives, go_sem, e1, e2, c14, f14]) ?_
      rintro _ _ ⟨rfl, rfl⟩
      subst hF
      simp [fr, Act.put, r1, t10]
      generalize vs 0 = u0 at *
      generalize vs 1 = u1 at *
      generalize vs 2 = u2 at *
      generalize vs 3 = u3 at *
      generalize vs 4 = u4 at *
      generalize vs 5 = u5 at *
      generalize vs 6 = u6 at *
      generalize vs 7 = u7 at *
      generalize vs 8 = u8 at *
      generalize vs 9 = u9 at *
      generalize vs 10 = u10 at *
      clear hT hf t10 e1 e2 r1 r2
      refine hK _ _ ?_
      clear hK c14 f14 hI
      generalize W.setCell ⟨M, 14, none⟩ (.slice (some ⟨ga, 0, none⟩) (sn0 + 1) ca) = W9 at *
      clear W
      have c14 := HR.out.box.cell 14 rfl
      go_wp2_with fail
      go_ret
      have hs1 := HSN.out.2.2
      exact ⟨by rw [HE3.out.1]; exact congrArg (fun x => Ending.returned (.int .i64 x)) (show wrap64 (sn0 : Int) = sn0 by unfold wrap64; omega), by rw [HE3.out.2]; exact ⟨_, HR.out⟩⟩
  | true =>
    have hin := HIN.out _ HX.out.1
    go_wp2_with fail
    refine hin.mono ?_; rintro e w3 ⟨rfl, hb3⟩
    rw [← hz]
    clear hz
    have HX3 : Hid (Below w.heap.size w w3 ∧ Box w3 z [.int .i64 n]) := ⟨HX.out.1.trans (hb3.mono HX.out.1.size), HX.out.2.call hb3⟩
    clear hin hb3 c3 HX
    by_cases h0 : 0 ≤ ip
    · have hd : decide (ip ≥ 0) = true := decide_eq_true h0
      have HE3 : Hid (fs.1 = ip ∧ fs.2 = sl) := by
        have : fs.1 = ip ∧ fs.2 = sl := by rw [HFS.out, if_pos ⟨trivial, h0⟩]; exact ⟨rfl, rfl⟩
        exact this
      clear HFS HIN HLE
      go_wp2_with fail
      go_ret
      exact ⟨by rw [HE3.out.1]; rfl, by rw [HE3.out.2]; exact ⟨_, HMS.out.call HX3.out.1⟩⟩
    have hd : decide (ip ≥ 0) = false := decide_eq_false h0
    have hle := HLE.out w3 HX3.out.1 z HX3.out.2
    go_wp2_with fail
    refine hle.mono ?_; rintro e w4 ⟨rfl, hb4⟩
    have HX : Hid (Below w.heap.size w w4 ∧ Box w4 z [.int .i64 n]) := ⟨HX3.out.1.trans (hb4.mono HX3.out.1.size), HX3.out.2.call hb4⟩
    clear hle hb4 HX3 HIN HLE
    by_cases h1 : 0 ≤ fi
    · have hd1 : decide (fi ≥ 0) = true := decide_eq_true h1
      have HE3 : Hid (fs.1 = fi ∧ fs.2 = sl) := by
        have : fs.1 = fi ∧ fs.2 = sl := by rw [HFS.out, if_neg (fun h => by have := h.2; omega), if_pos ⟨trivial, h1⟩]; exact ⟨rfl, rfl⟩
        exact this
      clear HFS
      go_wp2_with fail
      go_ret
      exact ⟨by rw [HE3.out.1]; rfl, by rw [HE3.out.2]; exact ⟨_, HMS.out.call HX.out.1⟩⟩
    have hd1 : decide (fi ≥ 0) = false := decide_eq_false h1
    have HE3 : Hid (fs.1 = (sn0 : Int) ∧ fs.2 = sl ++ [(n, 0)]) := by
      have : fs = ((sl.length : Int), sl ++ [(n, 0)]) := by rw [HFS.out, if_neg (fun h => by have := h.2; omega), if_neg (fun h => by have := h.2; omega)]
      have : fs.1 = (sn0 : Int) ∧ fs.2 = sl ++ [(n, 0)] := by rw [this, HSN.out.1]; exact ⟨rfl, rfl⟩
      exact this
    clear HFS h0 h1 HC3 hi0 hi1 hpn1
    go_wp2_with fail
    rename_i K hK
    obtain ⟨n2, hn2⟩ : ∃ n, n = w4.heap.size := ⟨_, rfl⟩
    have HBK2 : Hid (w.heap.size ≤ n2) := by
      have : w.heap.size ≤ n2 := by rw [hn2]; exact HX.out.1.size
      exact this
    have HX0 := HX
    clear HX
    have HX : Hid (MS w0 M nv out ⟨fu, true, ro, da, rm⟩ pl pv src sn pk sl sv w4 ∧ Box w4 z [.int .i64 n] ∧ n2 ≤ w4.heap.size) := ⟨HMS.out.call HX0.out.1, HX0.out.2, Nat.le_of_eq hn2⟩
    clear hn2 HX0 HMS
    refine wp_region_last (fun W => MS w0 M nv out ⟨fu, true, ro, da, rm⟩ pl pv src sn pk sl sv W ∧ Box W z [.int .i64 n] ∧ n2 ≤ W.heap.size) (ApT [.pointer (some ⟨M, 0, none⟩), .pointer (some ⟨M, 0, none⟩), .pointer (some ⟨M, 0, none⟩), .pointer (some ⟨M, 14, none⟩), sv, .int .i64 n, .agg #[.int .i64 n, .int .i64 0], undef, undef, .pointer (some ⟨M, 0, none⟩), .pointer (some ⟨M, 14, none⟩)] 7 8 n2 [.int .i64 n, .int .i64 0] 73 w0.heap.size 2 sn0 (scs sl)) 11 _ rfl rfl (by kernel_rfl) (by kernel_rfl) ⟨HX.out.1.call ((Below.refl _ _).drew), HX.out.2.1.call ((Below.refl _ _).drew), HX.out.2.2⟩ ?hop ?hlast
    case hop =>
      refine Each.get (n := 11) ⟨⟨⟨⟨⟨⟨⟨⟨⟨⟨⟨trivial, ?h0⟩, ?h1⟩, ?h2⟩, ?h3⟩, ?h4⟩, ?h5⟩, ?h6⟩, ?h7⟩, ?h8⟩, ?h9⟩, ?h10⟩
      case h0 =>
        refine OpIs.plain (by kernel_rfl) _ rfl rfl fun vs ev W hf hI hd => ?_
        have e0 : ev (.tmp 0) = .pointer (some ⟨M, 0, none⟩) := hf.off 0 rfl
        clear hK
        exact gives_pure (v := .pointer (some ⟨M, 0, none⟩)) hI (by simp [gives, go_sem, e0]) (.inr (.inr ⟨by decide, by decide, rfl⟩))
      case h1 =>
        refine OpIs.plain (by kernel_rfl) _ rfl rfl fun vs ev W hf hI hd => ?_
        have e0 : ev (.tmp 0) = .pointer (some ⟨M, 0, none⟩) := hf.off 0 rfl
        clear hK
        exact gives_pure (v := .pointer (some ⟨M, 0, none⟩)) hI (by simp [gives, go_sem, e0]) (.inr (.inr ⟨by decide, by decide, rfl⟩))
      case h2 =>
        refine OpIs.plain (by kernel_rfl) _ rfl rfl fun vs ev W hf hI hd => ?_
        have e0 : ev (.tmp 35) = .pointer (some ⟨M, 0, none⟩) := (hf.of 1 _ 35 rfl rfl rfl (of_decide_eq_true rfl)).trans ((hd 1 (by kernel_rfl)).val (by decide) (by decide))
        clear hK
        exact gives_pure (v := .pointer (some ⟨M, 0, none⟩)) hI (by simp [gives, go_sem, e0]) (.inr (.inr ⟨by decide, by decide, rfl⟩))
      case h3 =>
        refine OpIs.plain (by kernel_rfl) _ rfl rfl fun vs ev W hf hI hd => ?_
        have e0 : ev (.tmp 36) = .pointer (some ⟨M, 0, none⟩) := (hf.of 2 _ 36 rfl rfl rfl (of_decide_eq_true rfl)).trans ((hd 2 (by kernel_rfl)).val (by decide) (by decide))
        clear hK
        exact gives_pure (v := .pointer (some ⟨M, 14, none⟩)) hI (by simp [gives, go_sem, e0]) (.inr (.inr ⟨by decide, by decide, rfl⟩))
      case h4 =>
        refine OpIs.plain (by kernel_rfl) _ rfl rfl fun vs ev W hf hI hd => ?_
        have e0 : ev (.tmp 37) = .pointer (some ⟨M, 14, none⟩) := (hf.of 3 _ 37 rfl rfl rfl (of_decide_eq_true rfl)).trans ((hd 3 (by kernel_rfl)).val (by decide) (by decide))
        have d0 := hI.1.box.cell 14 rfl
        clear hK
        exact gives_pure (v := sv) hI (by simp [gives, go_sem, e0, d0]) (.inr (.inr ⟨by decide, by decide, rfl⟩))
      case h5 =>
        refine OpIs.plain (by kernel_rfl) _ rfl rfl fun vs ev W hf hI hd => ?_
        have e0 : ev (.tmp 5) = .pointer (some ⟨z, 0, none⟩) := hf.off 5 rfl
        have d0 := hI.2.1.cell 0 rfl
        clear hK
        exact gives_pure (v := .int .i64 n) hI (by simp [gives, go_sem, e0, d0]) (.inr (.inr ⟨by decide, by decide, rfl⟩))
      case h6 =>
        refine OpIs.plain (by kernel_rfl) _ rfl rfl fun vs ev W hf hI hd => ?_
        have e0 : ev (.tmp 39) = .int .i64 n := (hf.of 5 _ 39 rfl rfl rfl (of_decide_eq_true rfl)).trans ((hd 5 (by kernel_rfl)).val (by decide) (by decide))
        clear hK
        exact gives_pure (v := .agg #[.int .i64 n, .int .i64 0]) hI (by simp [gives, go_sem, e0]) (.inr (.inr ⟨by decide, by decide, rfl⟩))
      case h7 =>
        refine OpIs.plain (by kernel_rfl) _ rfl rfl fun vs ev W hf hI hd => ?_
        have e0 : ev (.tmp 40) = .agg #[.int .i64 n, .int .i64 0] := (hf.of 6 _ 40 rfl rfl rfl (of_decide_eq_true rfl)).trans ((hd 6 (by kernel_rfl)).val (by decide) (by decide))
        clear hK
        refine gives_mono (R := fun v w' => v = .slice (some ⟨W.heap.size, 0, none⟩) 1 1 ∧ w' = W.alloc (.cells #[.int .i64 n, .int .i64 0] 73)) (by simp [gives, go_sem, e0]) ?_
        rintro _ _ ⟨rfl, rfl⟩
        have hb := below_alloc W (.cells #[.int .i64 n, .int .i64 0] 73)
        exact ⟨.inl ⟨rfl, _, rfl, hI.2.2, alloc_at W _⟩, ⟨hI.1.call hb, hI.2.1.call hb, Nat.le_trans hI.2.2 hb.size⟩, fun j u _ h => h.below hb⟩
      case h8 =>
        refine OpIs.plain (by kernel_rfl) _ rfl rfl fun vs ev W hf hI hd => ?_
        have e0 : ev (.tmp 38) = sv := (hf.of 4 _ 38 rfl rfl rfl (of_decide_eq_true rfl)).trans ((hd 4 (by kernel_rfl)).val (by decide) (by decide))
        obtain ⟨gb, b1, b2, b3⟩ := (hd 7 (by kernel_rfl)).newv (by decide)
        have e1 := (hf.of 7 _ 41 rfl rfl rfl (of_decide_eq_true rfl)).trans b1
        obtain ⟨i3, hi3, hz0, hz1, hz2⟩ := info_parts infoSlot
        obtain ⟨a', c', W', hr, ho, hold, hg⟩ := app_keep (P := Tryz.prog) 49 73 i3 (.agg #[.int .i64 0, .int .i64 0]) 2 16 Tryz.underlying49 hi3 hz0 hz1 hz2 rfl (by decide) sv sn0 (scs sl) (HSN.out.1 ▸ hI.1.sr) ⟨gb, 0, none⟩ 1 1 [.int .i64 n, .int .i64 0] rfl (news_at b3) (by intro u hu; simp at hu; rcases hu with rfl | rfl <;> rfl) (by decide) HSN.out.2.1 HSN.out.2.2 (hI.1.below.size)
        have hbl := (fun (k : Nat) (hk : sv.ownBlock = some k) => Nat.lt_of_lt_of_le (HBK.out.1 k hk) HBK2.out)
        obtain ⟨ra0, rc0, hrow⟩ := HSF.out
        have hI' := (⟨hI.1.app hg (HSN.out.1 ▸ hold), hI.2.1.grown' hg (fun e => by have := HBK.out.1 z e; have := HBK.out.2; omega), Nat.le_trans hI.2.2 hg.size⟩ : MS w0 M nv out ⟨fu, true, ro, da, rm⟩ pl pv src sn pk sl sv W' ∧ Box W' z [.int .i64 n] ∧ n2 ≤ W'.heap.size)
        clear hK
        refine gives_mono (R := fun v w' => v = .slice (some ⟨a', 0, none⟩) (sn0 + 1) c' ∧ w' = W') (by unfold gives; rw [hrow] at hr e0; simp [execOp, resolve, invoke, builtin, e0, e1, hr, Result.andThen]) ?_
        rintro _ _ ⟨rfl, rfl⟩
        exact ⟨.inr (.inl ⟨rfl, _, _, rfl, ho⟩), hI', fun j u hj h => h.grow hj hg hbl⟩
      case h9 =>
        refine OpIs.plain (by kernel_rfl) _ rfl rfl fun vs ev W hf hI hd => ?_
        have e0 : ev (.tmp 34) = .pointer (some ⟨M, 0, none⟩) := (hf.of 0 _ 34 rfl rfl rfl (of_decide_eq_true rfl)).trans ((hd 0 (by kernel_rfl)).val (by decide) (by decide))
        clear hK
        exact gives_pure (v := .pointer (some ⟨M, 0, none⟩)) hI (by simp [gives, go_sem, e0]) (.inr (.inr ⟨by decide, by decide, rfl⟩))
      case h10 =>
        refine OpIs.plain (by kernel_rfl) _ rfl rfl fun vs ev W hf hI hd => ?_
        have e0 : ev (.tmp 43) = .pointer (some ⟨M, 0, none⟩) := (hf.of 9 _ 43 rfl rfl rfl (of_decide_eq_true rfl)).trans ((hd 9 (by kernel_rfl)).val (by decide) (by decide))
        clear hK
        exact gives_pure (v := .pointer (some ⟨M, 14, none⟩)) hI (by simp [gives, go_sem, e0]) (.inr (.inr ⟨by decide, by decide, rfl⟩))
    case hlast =>
      intro vs W hI hT
      obtain ⟨ga, ca, r1, r2⟩ := (hT 8 (by decide)).row (by decide)
      rw [r1] at r2
      have t10 := (hT 10 (by decide)).val (by decide) (by decide)
      refine last_plain (by kernel_rfl) rfl fun F ev hF hf => ?_
      have e1 := (hf.of 8 _ 42 rfl rfl rfl (of_decide_eq_true rfl)).trans r1
      have e2 : ev (.tmp 44) = .pointer (some ⟨M, 14, none⟩) := (hf.of 10 _ 44 rfl rfl rfl (of_decide_eq_true rfl)).trans t10
      have c14 := hI.1.box.cell 14 rfl
      have f14 := hI.1.box.frozen 14
      have HR : Hid (MS w0 M nv out ⟨fu, true, ro, da, rm⟩ pl pv src sn pk (sl ++ [(n, 0)]) (.slice (some ⟨ga, 0, none⟩) (sn0 + 1) ca) (W.setCell ⟨M, 14, none⟩ (.slice (some ⟨ga, 0, none⟩) (sn0 + 1) ca))) := hI.1.putSl (by
        rw [scs_app, List.length_append, HSN.out.1]
        exact r2)
      refine gives_mono (R := fun v w' => v = undef ∧ w' = W.setCell ⟨M, 14, none⟩ (.slice (some ⟨ga, 0, none⟩) (sn0 + 1) ca)) (by simp [gives, go_sem, e1, e2, c14, f14]) ?_
      rintro _ _ ⟨rfl, rfl⟩
      subst hF
      simp [fr, Act.put, r1, t10]
      generalize vs 0 = u0 at *
      generalize vs 1 = u1 at *
      generalize vs 2 = u2 at *
      generalize vs 3 = u3 at *
      generalize vs 4 = u4 at *
      generalize vs 5 = u5 at *
      generalize vs 6 = u6 at *
      generalize vs 7 = u7 at *
      generalize vs 8 = u8 at *
      generalize vs 9 = u9 at *
      generalize vs 10 = u10 at *
      clear hT hf t10 e1 e2 r1 r2
      refine hK _ _ ?_
      clear hK c14 f14 hI
      generalize W.setCell ⟨M, 14, none⟩ (.slice (some ⟨ga, 0, none⟩) (sn0 + 1) ca) = W9 at *
      clear W
      have c14 := HR.out.box.cell 14 rfl
      go_wp2_with fail
      go_ret
      have hs1 := HSN.out.2.2
      exact ⟨by rw [HE3.out.1]; exact congrArg (fun x => Ending.returned (.int .i64 x)) (show wrap64 (sn0 : Int) = sn0 by unfold wrap64; omega), by rw [HE3.out.2]; exact ⟨_, HR.out⟩⟩
end Go.Proofs.YtaoamkbcegadcaaGreatDoor
