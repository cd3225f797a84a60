/- Texts joined: XZw. -/
import Derived.Test.YtaoamkbcegadcaaGreatDoorZv
import Derived.Test.YtaoamkbcegadcaaGreatDoorZu
set_option maxRecDepth 4000
/- The walk of 'ProofTurned'. (Printed.) -/
namespace Go.Proofs.YtaoamkbcegadcaaGreatDoor
open Go.RowKit Go.Bx Go.Od Go.Hp
attribute [local go_sem ↓] Go.wp_at_zero Go.wp_at_succ
set_option linter.unusedVariables false

theorem ChOk.sub {nds : List Nd} {out : Int} {want : Rc} {c : Cf} (h : PlOk nds out want) (h12 : nds.length ≤ 12) {p : Pn} (hp : p = planN nds out c want) {L : List Ps} (hL : L.length ≤ p.ps.length + 1) (hm : ∀ y ∈ L, MkOk nds p.sn y) {src : Rc} {pk : Int} : ChOk nds ⟨L, src, p.sn, pk⟩ := by
  subst hp
  have h1 := plS_le h (c := c)
  have h2 := plS_sl h (c := c)
  have h3 : L.length ≤ (plS nds out c want).ps.length + 1 := hL
  exact ChOk.of h h12 (by omega) hm (show ((plS nds out c want).sl.length : Int) ≤ 1000 by omega)
theorem planN_mk {nds : List Nd} {out : Int} {want : Rc} {c : Cf} (h : PlOk nds out want) {p : Pn} (hp : p = planN nds out c want) : ∀ y ∈ p.ps, MkOk nds p.sn y := by
  subst hp
  exact plS_mk h
theorem turned_chk {nds : List Nd} {out : Int} {want : Rc} {c : Cf} (h : PlOk nds out want) {p : Pn} (hp : p = planN nds out c want) {src : Rc} {sn pk : Int} (hr : ∃ i, i < p.ps.length ∧ ∃ x ∈ (p.ps.getD i Ps.none).reads, 0 ≤ x) : chkP nds out want c ⟨p.ps.reverse, src, sn, pk⟩ = false := by
  subst hp
  obtain ⟨i, hi, x, hx, h0⟩ := hr
  unfold chkP
  dsimp only [planN] at hi hx ⊢
  cases e : ck1 nds out (plS nds out c want).ps.reverse with
  | false => rfl
  | true =>
    rw [turned_false h hi hx h0 e]
    rfl
/-- while the passes are put down the other way round: those from m on are -/
def TI (w : World) (a b : Value) (r : Rc) (c : Cf) (n qb : Nat) (cs : List Value) (pv : Value) (ps : List Ps) (s0 s1 s2 s3 sn pk : Int) (m : Nat) (W : World) : Prop := ∃ ov L, PS w a b r c n n cs pv ps W ∧ TB W qb [ov, .int .i64 s0, .int .i64 s1, .int .i64 s2, .int .i64 s3, .int .i64 sn, .int .i64 pk] 33 ∧ LP n (qb + 1) L ov W ∧ psl L = (ps.drop m).reverse
set_option maxRecDepth 10000 in
set_option maxHeartbeats 12800000 in
theorem proofTurned_walk (nv : Value) (nds : List Nd) (out : Int) (want : Rc) (c : Cf) (w : World) (ht : Tabs w) (hg : Gr w.heap.size w nv nds) :
    Calls Tryz.prog 4 #[.agg #[nv, .int .i64 out], rv want, cfv c] w (TPost w) := by
  have HG : Hid (Gr w.heap.size w nv nds ∧ Tabs w) := ⟨hg, ht⟩
  obtain ⟨ga, gc, rfl⟩ := hg.isSl
  have hgl := hg.len_le
  obtain ⟨x0, y0, x1, y1⟩ := want
  obtain ⟨fu, al, ro, da, rm⟩ := c
  clear hg ht
  have H1 : Hid (CB w (((w.alloc (.cells #[.slice ga nds.length gc, .int .i64 out] 24)).alloc (.cells (cs4 x0 y0 x1 y1) 26)).alloc (.cells #[.bool fu, .bool al, .bool ro, .bool da, .int .i64 rm] 28)) (.slice ga nds.length gc) (.int .i64 out) ⟨x0, y0, x1, y1⟩ ⟨fu, al, ro, da, rm⟩) := CB.new w _ _ ⟨x0, y0, x1, y1⟩ ⟨fu, al, ro, da, rm⟩ _ _
  go_enter Tryz.func4, Tryz.ntmps4
  go_wp2_with fail
  generalize (((w.alloc (.cells #[.slice ga nds.length gc, .int .i64 out] 24)).alloc (.cells (cs4 x0 y0 x1 y1) 26)).alloc (.cells #[.bool fu, .bool al, .bool ro, .bool da, .int .i64 rm] 28)) = W1 at *
  refine (awake20_c W1).mono ?_; rintro e w2 ⟨rfl, hb2⟩
  have H2 : Hid (CB w w2 (.slice ga nds.length gc) (.int .i64 out) ⟨x0, y0, x1, y1⟩ ⟨fu, al, ro, da, rm⟩) := H1.out.call hb2
  clear hb2 H1
  have g0 := H2.out.1.cell 0 rfl
  have g1 := H2.out.1.cell 1 rfl
  obtain ⟨r0, r1, r2, r3⟩ := box4 H2.out.2.1
  go_wp2_with fail
  refine (right19_c w.heap.size _ nds out ⟨x0, y0, x1, y1⟩ w2 (HG.out.2.below H2.out.2.2.2) (HG.out.1.below H2.out.2.2.2 (Nat.le_refl _)) H2.out.2.2.2.size).mono ?_; rintro e w3 ⟨rfl, hb3⟩
  have H3 : Hid (CB w w3 (.slice ga nds.length gc) (.int .i64 out) ⟨x0, y0, x1, y1⟩ ⟨fu, al, ro, da, rm⟩) := H2.out.call hb3
  clear g0 g1 r0 r1 r2 r3 hb3 H2
  obtain ⟨r, hr⟩ : ∃ r, r = rightP nds out ⟨x0, y0, x1, y1⟩ := ⟨_, rfl⟩
  rw [← hr]
  cases r with
  | false =>
    clear hr
    go_wp2_with fail
    refine (awake20_c w3).mono ?_; rintro e w4 ⟨rfl, hb4⟩
    have HE : Hid (Below w.heap.size w w4) := H3.out.2.2.2.trans (hb4.mono H3.out.2.2.2.size)
    clear H3 hb4
    go_wp2_with fail
    go_ret
    exact ⟨rfl, HE.out⟩
  | true =>
  have HP : Hid (PlOk nds out ⟨x0, y0, x1, y1⟩ ∧ nds.length ≤ 12) := ⟨plOk_of hr.symm, few12_of hr.symm⟩
  clear hr
  have g0 := H3.out.1.cell 0 rfl
  have g1 := H3.out.1.cell 1 rfl
  obtain ⟨r0, r1, r2, r3⟩ := box4 H3.out.2.1
  obtain ⟨m0, m1, m2, m3, m4, mf⟩ := H3.out.conf
  have hmk := makeG_c w.heap.size _ nds out ⟨x0, y0, x1, y1⟩ ⟨fu, al, ro, da, rm⟩ w3 HP.out.1 (HG.out.1.below H3.out.2.2.2 (Nat.le_refl _)) H3.out.2.2.2.size
  obtain ⟨p, hp⟩ : ∃ p, p = planN nds out ⟨fu, al, ro, da, rm⟩ ⟨x0, y0, x1, y1⟩ := ⟨_, rfl⟩
  rw [← hp] at hmk
  obtain ⟨ps, ⟨s0, s1, s2, s3⟩, sn, pk⟩ := p
  have HPN : Hid ((⟨ps, ⟨s0, s1, s2, s3⟩, sn, pk⟩ : Pn) = planN nds out ⟨fu, al, ro, da, rm⟩ ⟨x0, y0, x1, y1⟩) := hp
  clear hp
  go_wp2_with fail
  with_reducible refine hmk.mono ?_
  rintro e w5 ⟨pa, pc, rfl, hgp, hpc1, hpc2, hb5⟩
  unfold maxLen at hpc2
  dsimp only at hgp hpc1
  obtain ⟨P, hP⟩ : ∃ P, P = ps.length := ⟨_, rfl⟩
  have HPL : Hid (P = ps.length) := hP
  unfold pnv
  dsimp only
  rw [← hP] at hgp hpc1 ⊢
  obtain ⟨n, hn⟩ : ∃ n, n = w5.heap.size := ⟨_, rfl⟩
  have HCF : Hid (w.heap.size + 1 + 1 < n) := by
    have h := (H3.out.call hb5).2.2.1.lt
    rw [hn]
    exact h
  have HS5 : Hid (PS w (.slice ga nds.length gc) (.int .i64 out) ⟨x0, y0, x1, y1⟩ ⟨fu, al, ro, da, rm⟩ n n [.slice pa P pc, .int .i64 s0, .int .i64 s1, .int .i64 s2, .int .i64 s3, .int .i64 sn, .int .i64 pk] (.slice pa P pc) ps (w5.alloc (.cells #[.slice pa P pc, .int .i64 s0, .int .i64 s1, .int .i64 s2, .int .i64 s3, .int .i64 sn, .int .i64 pk] 33)) ∧ w.heap.size ≤ n) := by
    have hbn := below_new w5 (.cells #[.slice pa P pc, .int .i64 s0, .int .i64 s1, .int .i64 s2, .int .i64 s3, .int .i64 sn, .int .i64 pk] 33)
    have h5 := H3.out.call hb5
    rw [hn]
    exact ⟨⟨h5.call hbn, TB.new w5 _ _, hgp.below hbn (Nat.le_refl _), hbn.size⟩, h5.2.2.2.size⟩
  clear g0 g1 r0 r1 r2 r3 m0 m1 m2 m3 m4 mf hmk hgp hb5 H3 hP
  have HPF : Hid (ps.length ≤ 1000) := (chN HP.out.1 HP.out.2 HPN.out).few
  have hPf : P ≤ 1000 := by rw [HPL.out]; exact HPF.out
  obtain ⟨qb, hqb⟩ : ∃ z, z = w5.heap.size + 1 := ⟨_, rfl⟩
  have HT0 : Hid (TI w (.slice ga nds.length gc) (.int .i64 out) ⟨x0, y0, x1, y1⟩ ⟨fu, al, ro, da, rm⟩ n qb [.slice pa P pc, .int .i64 s0, .int .i64 s1, .int .i64 s2, .int .i64 s3, .int .i64 sn, .int .i64 pk] (.slice pa P pc) ps s0 s1 s2 s3 sn pk P ((w5.alloc (.cells #[.slice pa P pc, .int .i64 s0, .int .i64 s1, .int .i64 s2, .int .i64 s3, .int .i64 sn, .int .i64 pk] 33)).alloc (.cells #[.slice none 0 0, .int .i64 s0, .int .i64 s1, .int .i64 s2, .int .i64 s3, .int .i64 sn, .int .i64 pk] 33))) := by
    have hbn := below_new (w5.alloc (.cells #[.slice pa P pc, .int .i64 s0, .int .i64 s1, .int .i64 s2, .int .i64 s3, .int .i64 sn, .int .i64 pk] 33)) (.cells #[.slice none 0 0, .int .i64 s0, .int .i64 s1, .int .i64 s2, .int .i64 s3, .int .i64 sn, .int .i64 pk] 33)
    have hq2 : (w5.alloc (.cells #[.slice pa P pc, .int .i64 s0, .int .i64 s1, .int .i64 s2, .int .i64 s3, .int .i64 sn, .int .i64 pk] 33)).heap.size = qb := by rw [hqb, size_alloc]
    have hT := TB.new (w5.alloc (.cells #[.slice pa P pc, .int .i64 s0, .int .i64 s1, .int .i64 s2, .int .i64 s3, .int .i64 sn, .int .i64 pk] 33)) [.slice none 0 0, .int .i64 s0, .int .i64 s1, .int .i64 s2, .int .i64 s3, .int .i64 sn, .int .i64 pk] 33
    rw [hq2] at hT
    refine ⟨.slice none 0 0, [], HS5.out.1.call hbn, hT, LP.nil (by rw [hqb, hn]; omega) (Nat.le_of_eq (by rw [size_alloc, hq2])), ?_⟩
    rw [HPL.out, List.drop_length]
    rfl
  have HWN : Hid (w.heap.size + 1 + 1 < n ∧ qb = n + 1) := by
    have : w.heap.size + 1 + 1 < n ∧ qb = n + 1 := by
      refine ⟨?_, by rw [hqb, hn]⟩
      exact HCF.out
    exact this
  clear HS5
  go_wp2_with fail
  rw [← hqb, ← hn]
  generalize ((w5.alloc (.cells #[.slice pa P pc, .int .i64 s0, .int .i64 s1, .int .i64 s2, .int .i64 s3, .int .i64 sn, .int .i64 pk] 33)).alloc (.cells #[.slice none 0 0, .int .i64 s0, .int .i64 s1, .int .i64 s2, .int .i64 s3, .int .i64 sn, .int .i64 pk] 33)) = wA at *
  clear hqb hn
  clear w5
  go_loopw [10, 9] (fun iv rv wr => ∃ (m : Nat) (z : Int), m ≤ P ∧ iv = .int .i64 z ∧ z + 1 = m ∧ ∃ rd : Bool, rv = .bool rd ∧ Hid (rd = true → ∃ i, i < P ∧ ∃ x ∈ (ps.getD i Ps.none).reads, 0 ≤ x) ∧ Hid (TI w (.slice ga nds.length gc) (.int .i64 out) ⟨x0, y0, x1, y1⟩ ⟨fu, al, ro, da, rm⟩ n qb [.slice pa P pc, .int .i64 s0, .int .i64 s1, .int .i64 s2, .int .i64 s3, .int .i64 sn, .int .i64 pk] (.slice pa P pc) ps s0 s1 s2 s3 sn pk m wr)) (fun iv _ _ => (intOf iv + 1).toNat)
  case atStart => exact ⟨P, (P : Int) - 1, Nat.le_refl _, by go_num, by omega, false, rfl, (fun h => by cases h), HT0⟩
  case round =>
    obtain ⟨m, z, hm, rfl, hz, rd, rfl, hrd, hti⟩ := hrel
    by_cases hm0 : m = 0
    · have hz1 : z = -1 := by omega
      subst hz1
      subst hm0
      obtain ⟨ov, L, hps, htb, hlp, hpl⟩ := hti.out
      rw [List.drop_zero] at hpl
      obtain ⟨oa, oc, rfl⟩ := hlp.form
      obtain ⟨K9, hK9⟩ : ∃ k, k = L.length := ⟨_, rfl⟩
      rw [← hK9] at htb hlp
      have HTI : Hid (PS w (.slice ga nds.length gc) (.int .i64 out) ⟨x0, y0, x1, y1⟩ ⟨fu, al, ro, da, rm⟩ n n [.slice pa P pc, .int .i64 s0, .int .i64 s1, .int .i64 s2, .int .i64 s3, .int .i64 sn, .int .i64 pk] (.slice pa P pc) ps wr ∧ TB wr qb [.slice oa K9 oc, .int .i64 s0, .int .i64 s1, .int .i64 s2, .int .i64 s3, .int .i64 sn, .int .i64 pk] 33) := ⟨hps, htb⟩
      cases rd with
      | false =>
        clear hps htb hlp hti hpl hK9
        go_wp2_with fail
        go_ret
        exact ⟨rfl, HTI.out.1.1.2.2.2⟩
      | true =>
        have hchk := turned_chk HP.out.1 HPN.out (src := ⟨s0, s1, s2, s3⟩) (sn := sn) (pk := pk) (by
          obtain ⟨i, hi, hx⟩ := hrd.out rfl
          exact ⟨i, by dsimp only; rw [← HPL.out]; exact hi, hx⟩)
        have hch : ChOk nds ⟨psl L, ⟨s0, s1, s2, s3⟩, sn, pk⟩ := by
          rw [hpl]
          exact ChOk.sub HP.out.1 HP.out.2 HPN.out (by dsimp only; rw [List.length_reverse]; omega) (fun y hy => planN_mk HP.out.1 HPN.out y (List.mem_reverse.1 hy))
        have hck := qcheck_c (B := wr.heap.size) (nds := nds) (out := out) (want := ⟨x0, y0, x1, y1⟩) (c := ⟨fu, al, ro, da, rm⟩) (p := ⟨psl L, ⟨s0, s1, s2, s3⟩, sn, pk⟩) wr ((HG.out.1.below hps.1.2.2.2 (Nat.le_refl _)).mono hps.1.2.2.2.size) hlp.gp (Nat.le_refl _) HP.out.1.gn HP.out.1.rc HP.out.1.ne hch
        dsimp only at hchk
        rw [← hpl] at hchk
        rw [hchk] at hck
        unfold pnv at hck
        dsimp only at hck
        have he : errP false = 12 := rfl
        rw [he] at hck
        have g0 := HTI.out.1.1.1.cell 0 rfl
        have g1 := HTI.out.1.1.1.cell 1 rfl
        obtain ⟨r0, r1, r2, r3⟩ := box4 HTI.out.1.1.2.1
        obtain ⟨m0, m1, m2, m3, m4, mf⟩ := HTI.out.1.1.conf
        have k0 := HTI.out.2.box.cell 0 rfl
        have k1 := HTI.out.2.box.cell 1 rfl
        have k2 := HTI.out.2.box.cell 2 rfl
        have k3 := HTI.out.2.box.cell 3 rfl
        have k4 := HTI.out.2.box.cell 4 rfl
        have k5 := HTI.out.2.box.cell 5 rfl
        have k6 := HTI.out.2.box.cell 6 rfl
        clear hps htb hlp hti hpl hK9 hchk hch he
        go_wp2_with fail
        with_reducible refine hck.mono ?_
        rintro e w7 ⟨rfl, hb7⟩
        have HB7 : Hid (Below w.heap.size w w7) := HTI.out.1.1.2.2.2.trans (hb7.mono HTI.out.1.1.2.2.2.size)
        clear hck hb7
        go_wp2_with fail
        go_ret
        exact ⟨rfl, HB7.out⟩
    · obtain ⟨i, rfl⟩ : ∃ i, m = i + 1 := ⟨m - 1, by omega⟩
      obtain rfl : z = (i : Int) := by omega
      obtain ⟨ov, L, hps, htb, hlp, hpl⟩ := hti.out
      obtain ⟨oa, oc, rfl⟩ := hlp.form
      have hip : i < ps.length := by have := HPL.out; omega
      have hLn : L.length ≤ P := by
        have h1 := congrArg List.length hpl
        rw [psl_len, List.length_reverse, List.length_drop, ← HPL.out] at h1
        omega
      obtain ⟨y, hy⟩ : ∃ y, y = ps.getD i Ps.none := ⟨_, rfl⟩
      have hgp := hps.2.2.1
      rw [HPL.out] at hgp
      obtain ⟨b, o, na, nc, ra, rc, rfl, hbn, hpc, hs1, hs2⟩ := hgp.at hip hy
      clear hgp
      obtain ⟨k0, k1, k2, k3, k4, k5, k6, k7⟩ := hpc
      have hb0 : Below wr.heap.size wr wr.drew := (Below.refl _ _).drew
      have HBK : Hid (∀ k, (.slice oa L.length oc : Value).ownBlock = some k → k < wr.heap.size) := fun k hk => (hlp.blk k hk).2
      have hi0 : (0 : Int) ≤ (i : Int) := by omega
      have hi1 : (i : Int) < (P : Int) := by omega
      have HY : Hid (y = ps.getD i Ps.none ∧ i < P) := ⟨hy, by omega⟩
      have HS2 : Hid (SlOf RInt 1 (· < n) wr (.slice ra y.reads.length rc) y.reads) := hs2
      have HK1 : Hid (wr.cell? ⟨b, o + i * 8 + 1, none⟩ = some (.slice ra y.reads.length rc) ∧ b < n) := ⟨k1, hbn⟩
      clear hti HT0
      go_wp2_with fail
      rename_i K hK
      refine wp_region_last (fun W => PS w (.slice ga nds.length gc) (.int .i64 out) ⟨x0, y0, x1, y1⟩ ⟨fu, al, ro, da, rm⟩ n n [.slice (some ⟨b, o, none⟩) P pc, .int .i64 s0, .int .i64 s1, .int .i64 s2, .int .i64 s3, .int .i64 sn, .int .i64 pk] (.slice (some ⟨b, o, none⟩) P pc) ps W ∧ TB W qb [.slice oa L.length oc, .int .i64 s0, .int .i64 s1, .int .i64 s2, .int .i64 s3, .int .i64 sn, .int .i64 pk] 33 ∧ LP n (qb + 1) L (.slice oa L.length oc) W ∧ Below n wr W ∧ wr.heap.size ≤ W.heap.size) (ApT [.pointer (some ⟨qb, 0, none⟩), .slice oa L.length oc, .pointer (some ⟨n, 0, none⟩), .slice (some ⟨b, o, none⟩) P pc, .int .i64 i, .pointer (some ⟨b, o + i * 8, none⟩), .agg #[.slice na y.nodes.length nc, .slice ra y.reads.length rc, .int .i64 y.box.x0, .int .i64 y.box.y0, .int .i64 y.box.x1, .int .i64 y.box.y1, .int .i64 y.slot, .int .i64 y.last], undef, undef, .pointer (some ⟨qb, 0, none⟩)] 7 8 wr.heap.size [.slice na y.nodes.length nc, .slice ra y.reads.length rc, .int .i64 y.box.x0, .int .i64 y.box.y0, .int .i64 y.box.x1, .int .i64 y.box.y1, .int .i64 y.slot, .int .i64 y.last] 37 (qb + 1) 8 L.length (pcs L)) 10 _ rfl rfl (by kernel_rfl) (by kernel_rfl) ⟨hps.call hb0, htb.call hb0, hlp.call hb0, hb0.mono hps.2.2.2, hb0.size⟩ ?hop ?hlast
      case hop =>
        refine Each.get (n := 10) ⟨⟨⟨⟨⟨⟨⟨⟨⟨⟨trivial, ?h0⟩, ?h1⟩, ?h2⟩, ?h3⟩, ?h4⟩, ?h5⟩, ?h6⟩, ?h7⟩, ?h8⟩, ?h9⟩
        case h0 =>
          refine OpIs.plain (by kernel_rfl) _ rfl rfl fun vs ev W hf hI hd => ?_
          have e0 : ev (.tmp 8) = .pointer (some ⟨qb, 0, none⟩) := hf.off 8 rfl
          clear hK
          exact gives_pure (v := .pointer (some ⟨qb, 0, none⟩)) hI (by simp [gives, go_sem, e0]) (.inr (.inr ⟨by decide, by decide, rfl⟩))
        case h1 =>
          refine OpIs.plain (by kernel_rfl) _ rfl rfl fun vs ev W hf hI hd => ?_
          have e0 : ev (.tmp 35) = .pointer (some ⟨qb, 0, none⟩) := (hf.of 0 _ 35 rfl rfl rfl (of_decide_eq_true rfl)).trans ((hd 0 (by kernel_rfl)).val (by decide) (by decide))
          have d0 := hI.2.1.box.cell 0 rfl
          clear hK
          exact gives_pure (v := .slice oa L.length oc) hI (by simp [gives, go_sem, e0, d0]) (.inr (.inr ⟨by decide, by decide, rfl⟩))
        case h2 =>
          refine OpIs.plain (by kernel_rfl) _ rfl rfl fun vs ev W hf hI hd => ?_
          have e0 : ev (.tmp 7) = .pointer (some ⟨n, 0, none⟩) := hf.off 7 rfl
          clear hK
          exact gives_pure (v := .pointer (some ⟨n, 0, none⟩)) hI (by simp [gives, go_sem, e0]) (.inr (.inr ⟨by decide, by decide, rfl⟩))
        case h3 =>
          refine OpIs.plain (by kernel_rfl) _ rfl rfl fun vs ev W hf hI hd => ?_
          have e0 : ev (.tmp 37) = .pointer (some ⟨n, 0, none⟩) := (hf.of 2 _ 37 rfl rfl rfl (of_decide_eq_true rfl)).trans ((hd 2 (by kernel_rfl)).val (by decide) (by decide))
          have d0 := hI.1.2.1.box.cell 0 rfl
          clear hK
          exact gives_pure (v := .slice (some ⟨b, o, none⟩) P pc) hI (by simp [gives, go_sem, e0, d0]) (.inr (.inr ⟨by decide, by decide, rfl⟩))
        case h4 =>
          refine OpIs.plain (by kernel_rfl) _ rfl rfl fun vs ev W hf hI hd => ?_
          have e0 : ev (.tmp 10) = .int .i64 i := hf.off 10 rfl
          clear hK
          exact gives_pure (v := .int .i64 i) hI (by simp [gives, go_sem, e0]) (.inr (.inr ⟨by decide, by decide, rfl⟩))
        case h5 =>
          refine OpIs.plain (by kernel_rfl) _ rfl rfl fun vs ev W hf hI hd => ?_
          have e0 : ev (.tmp 38) = .slice (some ⟨b, o, none⟩) P pc := (hf.of 3 _ 38 rfl rfl rfl (of_decide_eq_true rfl)).trans ((hd 3 (by kernel_rfl)).val (by decide) (by decide))
          have e1 : ev (.tmp 39) = .int .i64 i := (hf.of 4 _ 39 rfl rfl rfl (of_decide_eq_true rfl)).trans ((hd 4 (by kernel_rfl)).val (by decide) (by decide))
          clear hK
          exact gives_pure (v := .pointer (some ⟨b, o + i * 8, none⟩)) hI (by simp [gives, go_sem, e0, e1, hi0, hi1]) (.inr (.inr ⟨by decide, by decide, rfl⟩))
        case h6 =>
          refine OpIs.plain (by kernel_rfl) _ rfl rfl fun vs ev W hf hI hd => ?_
          have e0 : ev (.tmp 40) = .pointer (some ⟨b, o + i * 8, none⟩) := (hf.of 5 _ 40 rfl rfl rfl (of_decide_eq_true rfl)).trans ((hd 5 (by kernel_rfl)).val (by decide) (by decide))
          have d0 := (hI.2.2.2.1.cell (p := ⟨b, o + i * 8, none⟩) hbn).trans k0
          have d1 := (hI.2.2.2.1.cell (p := ⟨b, o + i * 8 + 1, none⟩) hbn).trans k1
          have d2 := (hI.2.2.2.1.cell (p := ⟨b, o + i * 8 + 2, none⟩) hbn).trans k2
          have d3 := (hI.2.2.2.1.cell (p := ⟨b, o + i * 8 + 3, none⟩) hbn).trans k3
          have d4 := (hI.2.2.2.1.cell (p := ⟨b, o + i * 8 + 4, none⟩) hbn).trans k4
          have d5 := (hI.2.2.2.1.cell (p := ⟨b, o + i * 8 + 5, none⟩) hbn).trans k5
          have d6 := (hI.2.2.2.1.cell (p := ⟨b, o + i * 8 + 6, none⟩) hbn).trans k6
          have d7 := (hI.2.2.2.1.cell (p := ⟨b, o + i * 8 + 7, none⟩) hbn).trans k7
          clear hK
          exact gives_pure (v := .agg #[.slice na y.nodes.length nc, .slice ra y.reads.length rc, .int .i64 y.box.x0, .int .i64 y.box.y0, .int .i64 y.box.x1, .int .i64 y.box.y1, .int .i64 y.slot, .int .i64 y.last]) hI (by simp [gives, go_sem, e0, d0, d1, d2, d3, d4, d5, d6, d7]) (.inr (.inr ⟨by decide, by decide, rfl⟩))
        case h7 =>
          refine OpIs.plain (by kernel_rfl) _ rfl rfl fun vs ev W hf hI hd => ?_
          have e0 : ev (.tmp 41) = .agg #[.slice na y.nodes.length nc, .slice ra y.reads.length rc, .int .i64 y.box.x0, .int .i64 y.box.y0, .int .i64 y.box.x1, .int .i64 y.box.y1, .int .i64 y.slot, .int .i64 y.last] := (hf.of 6 _ 41 rfl rfl rfl (of_decide_eq_true rfl)).trans ((hd 6 (by kernel_rfl)).val (by decide) (by decide))
          clear hK
          refine gives_mono (R := fun v w' => v = .slice (some ⟨W.heap.size, 0, none⟩) 1 1 ∧ w' = W.alloc (.cells #[.slice na y.nodes.length nc, .slice ra y.reads.length rc, .int .i64 y.box.x0, .int .i64 y.box.y0, .int .i64 y.box.x1, .int .i64 y.box.y1, .int .i64 y.slot, .int .i64 y.last] 37)) (by simp [gives, go_sem, e0]) ?_
          rintro _ _ ⟨rfl, rfl⟩
          have hb := below_alloc W (.cells #[.slice na y.nodes.length nc, .slice ra y.reads.length rc, .int .i64 y.box.x0, .int .i64 y.box.y0, .int .i64 y.box.x1, .int .i64 y.box.y1, .int .i64 y.slot, .int .i64 y.last] 37)
          exact ⟨.inl ⟨rfl, _, rfl, hI.2.2.2.2, alloc_at W _⟩, ⟨hI.1.call hb, hI.2.1.call hb, hI.2.2.1.call hb, hI.2.2.2.1.trans (hb.mono hI.1.2.2.2), Nat.le_trans hI.2.2.2.2 hb.size⟩, fun j u _ h => h.below hb⟩
        case h8 =>
          refine OpIs.plain (by kernel_rfl) _ rfl rfl fun vs ev W hf hI hd => ?_
          have e0 : ev (.tmp 36) = .slice oa L.length oc := (hf.of 1 _ 36 rfl rfl rfl (of_decide_eq_true rfl)).trans ((hd 1 (by kernel_rfl)).val (by decide) (by decide))
          obtain ⟨gb, gb1, gb2, gb3⟩ := (hd 7 (by kernel_rfl)).newv (by decide)
          have e1 := (hf.of 7 _ 42 rfl rfl rfl (of_decide_eq_true rfl)).trans gb1
          obtain ⟨i3, hi3, hz0, hz1, hz2⟩ := info_parts infoPs
          obtain ⟨a', c', W', hr, ho, hold, hg⟩ := app_keep (P := Tryz.prog) 31 37 i3 (.agg #[.slice none 0 0, .slice none 0 0, .int .i64 0, .int .i64 0, .int .i64 0, .int .i64 0, .int .i64 0, .int .i64 0]) 8 96 Tryz.underlying31 hi3 hz0 hz1 hz2 rfl (by decide) (.slice oa L.length oc) L.length (pcs L) hI.2.2.1.own ⟨gb, 0, none⟩ 1 1 [.slice na y.nodes.length nc, .slice ra y.reads.length rc, .int .i64 y.box.x0, .int .i64 y.box.y0, .int .i64 y.box.x1, .int .i64 y.box.y1, .int .i64 y.slot, .int .i64 y.last] rfl (news_at gb3) (by intro u hu; simp at hu; rcases hu with rfl | rfl | rfl | rfl | rfl | rfl | rfl | rfl <;> rfl) (by decide) (by unfold maxLen; omega) (by omega) hI.2.2.1.leW
          have hbl := HBK.out
          obtain ⟨ra0, rc0, hrow⟩ := (⟨oa, oc, rfl⟩ : ∃ ra0 rc0, (.slice oa L.length oc) = Value.slice ra0 L.length rc0)
          have hI' := (⟨hI.1.keep (hI.2.2.1.low hg) (by have := HWN.out; omega) (by have := HWN.out; omega) hI.2.2.1.le, hI.2.1.keep (hI.2.2.1.low hg) (by omega), hI.2.2.1.keep hold (hI.2.2.1.low hg), hI.2.2.2.1.trans ((hI.2.2.1.low hg).mono hI.2.2.1.le), Nat.le_trans hI.2.2.2.2 hg.size⟩ : PS w (.slice ga nds.length gc) (.int .i64 out) ⟨x0, y0, x1, y1⟩ ⟨fu, al, ro, da, rm⟩ n n [.slice (some ⟨b, o, none⟩) P pc, .int .i64 s0, .int .i64 s1, .int .i64 s2, .int .i64 s3, .int .i64 sn, .int .i64 pk] (.slice (some ⟨b, o, none⟩) P pc) ps W' ∧ TB W' qb [.slice oa L.length oc, .int .i64 s0, .int .i64 s1, .int .i64 s2, .int .i64 s3, .int .i64 sn, .int .i64 pk] 33 ∧ LP n (qb + 1) L (.slice oa L.length oc) W' ∧ Below n wr W' ∧ wr.heap.size ≤ W'.heap.size)
          clear hK
          refine gives_mono (R := fun v w' => v = .slice (some ⟨a', 0, none⟩) (L.length + 1) c' ∧ w' = W') (by unfold gives; rw [hrow] at hr e0; simp [execOp, resolve, invoke, builtin, e0, e1, hr, Result.andThen]) ?_
          rintro _ _ ⟨rfl, rfl⟩
          exact ⟨.inr (.inl ⟨rfl, _, _, rfl, ho⟩), hI', fun j u hj h => h.grow hj hg hbl⟩
        case h9 =>
          refine OpIs.plain (by kernel_rfl) _ rfl rfl fun vs ev W hf hI hd => ?_
          have e0 : ev (.tmp 8) = .pointer (some ⟨qb, 0, none⟩) := hf.off 8 rfl
          clear hK
          exact gives_pure (v := .pointer (some ⟨qb, 0, none⟩)) hI (by simp [gives, go_sem, e0]) (.inr (.inr ⟨by decide, by decide, rfl⟩))
      case hlast =>
        intro vs W hI hT
        obtain ⟨gp, ca, r1, r2⟩ := (hT 8 (by decide)).row (by decide)
        rw [r1] at r2
        have t9 := (hT 9 (by decide)).val (by decide) (by decide)
        refine last_plain (by kernel_rfl) rfl fun F ev hF hf => ?_
        have e1 := (hf.of 8 _ 43 rfl rfl rfl (of_decide_eq_true rfl)).trans r1
        have e2 : ev (.tmp 44) = .pointer (some ⟨qb, 0, none⟩) := (hf.of 9 _ 44 rfl rfl rfl (of_decide_eq_true rfl)).trans t9
        have c0 := hI.2.1.box.cell 0 rfl
        have f0 := hI.2.1.box.frozen 0
        have HR : Hid (TI w (.slice ga nds.length gc) (.int .i64 out) ⟨x0, y0, x1, y1⟩ ⟨fu, al, ro, da, rm⟩ n qb [.slice (some ⟨b, o, none⟩) P pc, .int .i64 s0, .int .i64 s1, .int .i64 s2, .int .i64 s3, .int .i64 sn, .int .i64 pk] (.slice (some ⟨b, o, none⟩) P pc) ps s0 s1 s2 s3 sn pk i (W.setCell ⟨qb, 0, none⟩ (.slice (some ⟨gp, 0, none⟩) (L.length + 1) ca)) ∧ Below n wr (W.setCell ⟨qb, 0, none⟩ (.slice (some ⟨gp, 0, none⟩) (L.length + 1) ca))) := by
          have hs : Below (n + 1) W (W.setCell ⟨qb, 0, none⟩ (.slice (some ⟨gp, 0, none⟩) (L.length + 1) ca)) := (Below.refl _ _).setCell (p := ⟨qb, 0, none⟩) (Nat.le_of_eq HWN.out.2.symm) _
          refine ⟨⟨_, L ++ [(.slice na y.nodes.length nc, .slice ra y.reads.length rc, y)], hI.1.keep hs (by have := HWN.out; omega) (by omega) (by omega), hI.2.1.put 0 _, ?_, ?_⟩, hI.2.2.2.1.trans (hs.mono (by omega))⟩
          · have h1 := hI.2.2.1.more r2 (Below.refl _ _) (sl_below hs1 hI.2.2.2.1) (sl_below hs2 hI.2.2.2.1)
            exact ⟨owns_set h1.own (p := ⟨qb, 0, none⟩) (Nat.lt_succ_self _) _, fun x hx => ⟨sl_below (h1.inner x hx).1 (hs.mono (by omega)), sl_below (h1.inner x hx).2 (hs.mono (by omega))⟩, h1.le, Nat.le_trans h1.leW hs.size⟩
          · have e : psl (L ++ [(.slice na y.nodes.length nc, .slice ra y.reads.length rc, y)]) = psl L ++ [y] := by simp [psl]
            rw [e, hpl, drop_rev hip, ← hy]
        refine gives_mono (R := fun v w' => v = undef ∧ w' = W.setCell ⟨qb, 0, none⟩ (.slice (some ⟨gp, 0, none⟩) (L.length + 1) ca)) (by simp [gives, go_sem, e1, e2, c0, f0]) ?_
        rintro _ _ ⟨rfl, rfl⟩
        subst hF
        simp [fr, Act.put, r1, t9]
        generalize vs 0 = v0 at *
        generalize vs 1 = v1 at *
        generalize vs 2 = v2 at *
        generalize vs 3 = v3 at *
        generalize vs 4 = v4 at *
        generalize vs 5 = v5 at *
        generalize vs 6 = v6 at *
        generalize vs 7 = v7 at *
        generalize vs 8 = v8 at *
        generalize vs 9 = v9 at *
        clear hT hf r1 t9 e1 e2
        refine hK _ _ ?_
        clear hK c0 f0 r2 hps htb hlp hpl
        generalize W.setCell ⟨qb, 0, none⟩ (.slice (some ⟨gp, 0, none⟩) (L.length + 1) ca) = W7 at *
        clear hI
        obtain ⟨RL, hRL⟩ : ∃ k, k = y.reads.length := ⟨_, rfl⟩
        have HRL : Hid (RL = y.reads.length) := hRL
        have k1' : W7.cell? ⟨b, o + i * 8 + 1, none⟩ = some (.slice ra RL rc) := by rw [hRL]; exact (HR.out.2.cell (p := ⟨b, o + i * 8 + 1, none⟩) HK1.out.2).trans HK1.out.1
        have hP0 : W7.cell? ⟨n, 0, none⟩ = some (.slice (some ⟨b, o, none⟩) P pc) := by
          obtain ⟨_, _, h, _⟩ := HR.out.1
          exact h.2.1.box.cell 0 rfl
        have HS3 : Hid (SlOf RInt 1 (· < n) W7 (.slice ra RL rc) y.reads) := by rw [hRL]; exact sl_below HS2.out HR.out.2
        have hRm : RL ≤ 9223372036854775807 := by
          obtain ⟨_, cc, hv, hz1, hz2, _⟩ := HS3.out
          unfold maxLen at hz2
          omega
        clear hRL k0 k1 k2 k3 k4 k5 k6 k7 hs1 hs2 hy
        go_wp2_with fail
        go_loopw [11, 9] (fun kv rv wr' => ∃ k : Nat, k ≤ RL ∧ kv = .int .i64 k ∧ ∃ rd' : Bool, rv = .bool rd' ∧ Hid (rd' = true → ∃ i, i < P ∧ ∃ x ∈ (ps.getD i Ps.none).reads, 0 ≤ x) ∧ wr' = W7) (fun kv _ _ => RL - (intOf kv).toNat)
        case atStart => exact ⟨0, Nat.zero_le _, rfl, rd, rfl, hrd, rfl⟩
        case round =>
          obtain ⟨k, hk, rfl, rd', rfl, hrd', rfl⟩ := hrel
          by_cases h1 : k < RL
          · obtain ⟨ia', ic', hv, hcap', hcm', hin', hcell⟩ := HS3.out.ints
            obtain ⟨b3, o3, hna, hb3, hce⟩ := hcell k (by rw [← HRL.out]; exact h1)
            simp only [Value.slice.injEq] at hv
            obtain ⟨rfl, hle, rfl⟩ := hv
            clear hle
            subst hna
            have hd0 := hce k (by rw [← HRL.out]; exact h1)
            obtain ⟨x, hx⟩ : ∃ x, x = y.reads.getD k 0 := ⟨_, rfl⟩
            have hxm : x ∈ y.reads := by rw [hx]; exact getD_mem _ (by rw [← HRL.out]; exact h1)
            rw [← hx] at hd0
            have HX : Hid (x ∈ y.reads) := hxm
            have hk0 : (0 : Int) ≤ (k : Int) := by omega
            have hk1 : (k : Int) < (RL : Int) := by omega
            clear hx hxm hce hcell hin' hcm' hcap' hb3
            cases rd' with
            | true =>
              go_wp2_with fail
              go_roundw
              case rel => exact ⟨k + 1, by omega, by go_num, true, rfl, hrd', trivial⟩
              case measure => simp [intOf]; omega
            | false =>
              by_cases hx0 : 0 ≤ x
              · have hxd : decide (0 ≤ x) = true := decide_eq_true hx0
                have HN : Hid (true = true → ∃ i, i < P ∧ ∃ x ∈ (ps.getD i Ps.none).reads, 0 ≤ x) := fun _ => ⟨i, HY.out.2, x, by rw [← HY.out.1]; exact HX.out, hx0⟩
                clear hx0
                go_wp2_with fail
                go_roundw
                case rel => exact ⟨k + 1, by omega, by go_num, true, rfl, HN, trivial⟩
                case measure => simp [intOf]; omega
              · have hxd : decide (0 ≤ x) = false := decide_eq_false hx0
                clear hx0
                go_wp2_with fail
                go_roundw
                case rel => exact ⟨k + 1, by omega, by go_num, false, rfl, hrd', trivial⟩
                case measure => simp [intOf]; omega
          · have hkb : ¬ (k : Int) < (RL : Int) := by omega
            go_wp2_with fail
            go_roundw
            case rel => exact ⟨i, (i : Int) - 1, by omega, by go_num, by omega, rd', rfl, hrd', HR.out.1⟩
            case measure => simp [intOf]
end Go.Proofs.YtaoamkbcegadcaaGreatDoor
/-! ### the law -/
namespace Go.Proofs.YtaoamkbcegadcaaGreatDoor
open Go.RowKit Go.Bx Go.Od Go.Hp Go.ChangeShapes Go.WideShapes Go.ChangeAt
set_option linter.unusedVariables false
section
variable {H : Type} {enc : TypeId × Value → H} {W : World} {base : Nat}
theorem proofTurned.proofTurned_law (W : World) (ht : Tabs W) {v0 v1 v2 : Value} {d0 d1 d2 : DataW H} {p0 p1 p2 : List MemPlace}
    (h0 : DataW.Trod enc Tryz.prog W 0 (fun _ => true) true 24 v0 d0 p0) (h1 : DataW.Trod enc Tryz.prog W 0 (fun _ => true) true 26 v1 d1 p1) (h2 : DataW.Trod enc Tryz.prog W 0 (fun _ => true) true 28 v2 d2 p2)
    (k0 : Value.okWide Tryz.prog W .any base 24 v0) (k1 : Value.okWide Tryz.prog W .any base 26 v1) (k2 : Value.okWide Tryz.prog W .any base 28 v2) :
    Calls Tryz.prog 4 #[v0, v1, v2] W (TPost W) := by
  obtain ⟨nv, out, nds, rfl, hg, hout⟩ := graph_arg h0 k0
  obtain ⟨r, rfl⟩ := rect_arg h1 k1
  obtain ⟨c, rfl⟩ := conf_arg h2 k2
  exact proofTurned_walk nv nds out r c W ht hg
end
end Go.Proofs.YtaoamkbcegadcaaGreatDoor
