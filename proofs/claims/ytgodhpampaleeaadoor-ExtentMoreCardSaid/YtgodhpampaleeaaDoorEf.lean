/- Texts joined: XEf. -/
import Derived.Test.YtgodhpampaleeaaDoorEe
set_option maxRecDepth 4000
/- Layer 13: carried, ReachAll. -/
namespace Go.Proofs.YtgodhpampaleeaaDoor
open Go.RowKit Go.Bx Go.Od Go.Hp
attribute [local go_sem ↓] Go.wp_at_zero Go.wp_at_succ
set_option linter.unusedVariables false

theorem rcs_app : ∀ (a b : List Rc), rcs (a ++ b) = rcs a ++ rcs b
  | [], b => rfl
  | r :: a, b => by simp [rcs, rcs_app a b]
theorem rcs_one (r : Rc) : rcs [r] = [.int .i64 r.x0, .int .i64 r.y0, .int .i64 r.x1, .int .i64 r.y1] := rfl
theorem in_pl {x : Int} (h : Pl x) : In64 x := by unfold Pl at h; unfold In64; omega
/-- a row of one's own of rectangles, read -/
theorem own_rc {w : World} {B : Nat} {e : TypeId} {v : Value} {rs : List Rc} (h : w.ownsRow B e 4 v rs.length (rcs rs)) (hp : ∀ r ∈ rs, RcP r) : SlOf RRc 4 (· < w.heap.size) w v rs := by
  rcases h.2 with ⟨rfl, h0⟩ | ⟨g, cap, cur, rfl, h2, h3, h4, h5, h6, h7⟩
  · exact ⟨none, 0, by rw [h0], by omega, by decide, .inl (List.eq_nil_of_length_eq_zero h0)⟩
  · refine ⟨_, cap, rfl, h4, h5, .inr ⟨g, 0, rfl, (Array.getElem?_eq_some_iff.1 h3).1, fun i r hi => ?_⟩⟩
    have hr := hp r (List.mem_of_getElem? hi)
    obtain ⟨k0, k1, k2, k3⟩ := rcs_get rs i r hi
    have hil : i < rs.length := (List.getElem?_eq_some_iff.1 hi).1
    have hx : Box w g cur.toList := ⟨e, by simpa using h3⟩
    have get : ∀ k (u : Value), (rcs rs)[k]? = some u → cur.toList[k]? = some u := fun k u hk => by
      rw [← h7, List.getElem?_take] at hk
      split at hk
      · exact hk
      · cases hk
    refine ⟨_, rfl, fun j u hu => ?_, rfl, in_pl hr.1, in_pl hr.2.1, in_pl hr.2.2.1, in_pl hr.2.2.2⟩
    rw [Nat.zero_add]
    match j, hu with
    | 0, hu => simp at hu; subst hu; exact hx.cell _ (get _ _ k0)
    | 1, hu => simp at hu; subst hu; exact hx.cell _ (get _ _ k1)
    | 2, hu => simp at hu; subst hu; exact hx.cell _ (get _ _ k2)
    | 3, hu => simp at hu; subst hu; exact hx.cell _ (get _ _ k3)
    | j + 4, hu => simp at hu
theorem news_at' {W : World} {g : Nat} {news : List Value} (h : Box W g news) (j : Nat) (u : Value) (hj : news[j]? = some u) : W.cell? ((⟨g, 0, none⟩ : Addr).add j) = some u := by
  rw [Go.WideShapes.add_plain, Nat.zero_add]
  exact h.cell j hj
/-- a rectangle of a row in the bag is stored -/
theorem bag_setR {w W : World} {l : List (Nat × List Value)} (h : Bag w W l) (i : Nat) {a : Nat} {rs : List Rc} (hi : l[i]? = some (a, rcs rs)) (k : Nat) (r : Rc) :
    Bag w ((((W.setCell ⟨a, k * 4, none⟩ (.int .i64 r.x0)).setCell ⟨a, k * 4 + 1, none⟩ (.int .i64 r.y0)).setCell ⟨a, k * 4 + 2, none⟩ (.int .i64 r.x1)).setCell ⟨a, k * 4 + 3, none⟩ (.int .i64 r.y1)) (l.set i (a, rcs (rs.set k r))) := by
  have hil := (List.getElem?_eq_some_iff.1 hi).1
  have h0 := h.set i hi (k * 4) (.int .i64 r.x0)
  have h1 := h0.set i (List.getElem?_set_self hil) (k * 4 + 1) (.int .i64 r.y0)
  have h2 := h1.set i (List.getElem?_set_self (by simpa using hil)) (k * 4 + 2) (.int .i64 r.x1)
  have h3 := h2.set i (List.getElem?_set_self (by simpa using hil)) (k * 4 + 3) (.int .i64 r.y1)
  rw [← rcs_set]
  simpa using h3
/-- what stands in carried -/
abbrev cbag (s : Nat) (nv : Value) (out : Int) (r : Rc) (vs : List Rc) (ob : Nat) (cur : List Value) : List (Nat × List Value) := [(s, [nv, .int .i64 out]), (s + 1, cl4 r), (s + 1 + 1, cl4 ⟨0, 0, 0, 0⟩), (s + 1 + 1 + 1, rcs vs), (ob, cur)]
set_option maxRecDepth 8000 in
set_option maxHeartbeats 6400000 in
theorem carried_c (B : Nat) (nv : Value) (g : Fg) (r : Rc) (w : World) (hg : GoodR g) (hgr : Gr B w nv g.nds) (hB : B ≤ w.heap.size) (hr : RcP r) :
    Calls Tryd.prog 40 #[.agg #[nv, .int .i64 g.out], rv r, .func (.func 41) #[] #[]] w (PPost w (rv (reachG g r))) := by
  obtain ⟨nds, out⟩ := g
  obtain ⟨ga, gc, rfl⟩ := hgr.isSl
  obtain ⟨x0, y0, x1, y1⟩ := r
  obtain ⟨iR, hiR, hz0, hz1, hz2⟩ := info_parts infoRc
  have HGR : Hid (GoodR ⟨nds, out⟩ ∧ RcP ⟨x0, y0, x1, y1⟩ ∧ ∀ k ∈ ord (insOf nds), k < nds.length) := ⟨hg, hr, fun k hk => by have := (ord_fine (insOf nds)).bound k hk; rwa [insOf_len] at this⟩
  have HG : Hid (∀ W, Below w.heap.size w W → Gr B W (.slice ga nds.length gc) nds ∧ B ≤ W.heap.size) := fun W hb => ⟨hgr.below hb hB, Nat.le_trans hB hb.size⟩
  obtain ⟨o, ho⟩ : ∃ o, o = ord (insOf nds) := ⟨_, rfl⟩
  have HO : Hid (o = ord (insOf nds) ∧ 0 < o.length ∧ ∀ k ∈ o, k < nds.length) := by
    refine ⟨ho, ?_, by rw [ho]; exact HGR.out.2.2⟩
    have := hg.acy
    have := hg.gn.pos
    rw [ho]
    dsimp only at *
    omega
  obtain ⟨R, hR⟩ : ∃ R, R = reachG ⟨nds, out⟩ ⟨x0, y0, x1, y1⟩ := ⟨_, rfl⟩
  have HRR : Hid (R = (reachL nds ⟨x0, y0, x1, y1⟩ o).getD out.toNat Rc.zero) := by
    have : R = (reachL nds ⟨x0, y0, x1, y1⟩ o).getD out.toNat Rc.zero := by rw [hR, ho]; rfl
    exact this
  rw [← hR]
  obtain ⟨ho0, ho1⟩ := hg.gn.outs
  dsimp only at ho0 ho1
  obtain ⟨u, rfl⟩ : ∃ u : Nat, out = u := ⟨out.toNat, by omega⟩
  have hnl : nds.length ≤ 100 := hg.gn.few
  obtain ⟨n, hn⟩ : ∃ n, n = nds.length := ⟨_, rfl⟩
  have HN : Hid (n = nds.length) := Lib.hid hn
  have H0 : Hid (Bag w (((w.alloc (.cells #[.slice ga n gc, .int .i64 u] 33)).alloc (.cells (cs4 x0 y0 x1 y1) 25)).alloc (.cells (cs4 0 0 0 0) 25)) [(w.heap.size, [.slice ga n gc, .int .i64 u]), (w.heap.size + 1, cl4 ⟨x0, y0, x1, y1⟩), (w.heap.size + 1 + 1, cl4 ⟨0, 0, 0, 0⟩)]) := bag3 w [.slice ga n gc, .int .i64 u] (cl4 ⟨x0, y0, x1, y1⟩) (cl4 ⟨0, 0, 0, 0⟩) _ _ _
  have HL : Hid (∀ W, Bag w W [(w.heap.size, [.slice ga n gc, .int .i64 u]), (w.heap.size + 1, cl4 ⟨x0, y0, x1, y1⟩), (w.heap.size + 1 + 1, cl4 ⟨0, 0, 0, 0⟩)] → w.heap.size + 3 ≤ W.heap.size) := fun W h => by
    have := h.lt (w.heap.size + 1 + 1, cl4 ⟨0, 0, 0, 0⟩) (by simp)
    dsimp only at this
    omega
  rw [← hn] at HG hnl ho1 ⊢
  dsimp only at hg hgr hr
  clear hg hgr hr ho hR hn
  go_enter Tryd.func40, Tryd.ntmps40
  go_wp2_with (at_make; (refine wpList_make_full _ rfl _ _ 84 rfl (w.heap.size + 3) 25 iR (.agg #[.int .i64 0, .int .i64 0, .int .i64 0, .int .i64 0]) 4 Tryd.underlying84 hiR hz0 hz1 .i64 .i64 _ _ n rfl rfl rfl rfl (by rw [hz2]; omega) (by unfold maxLen; omega) (by simp) ?_; intro w2 hown2 hgrow2; have H2 : Hid (Bag w w2 [(w.heap.size, [.slice ga n gc, .int .i64 u]), (w.heap.size + 1, cl4 ⟨x0, y0, x1, y1⟩), (w.heap.size + 1 + 1, cl4 ⟨0, 0, 0, 0⟩), (w.heap.size + 1 + 1 + 1, rcs (List.replicate n Rc.zero))]) := (H0.out.made hgrow2).add (b := w.heap.size + 1 + 1 + 1) (cs := rcs (List.replicate n Rc.zero)) (by rw [← rcs_zero]; exact box_own4 (by simpa using hown2)) (by omega) (by simp; omega); clear hown2 hgrow2 H0; have a0 := H2.out.cell 0 rfl 0 rfl; have a1 := H2.out.cell 0 rfl 1 rfl))
  have H2' : Hid (w.heap.size + 4 ≤ w2.heap.size) := by
    have := H2.out.lt (w.heap.size + 1 + 1 + 1, rcs (List.replicate n Rc.zero)) (by simp)
    dsimp only at this
    have h : w.heap.size + 4 ≤ w2.heap.size := by omega
    exact h
  refine (all_c B _ nds u w2 (by rw [← HN.out]; omega) HGR.out.1.gn.short (by have := (HG.out w2 H2.out.below).1; exact this) (HG.out w2 H2.out.below).2).mono ?_; rintro e W3 ⟨oa, oc, rfl, hown3, hb3⟩
  rw [← HO.out.1] at hown3 ⊢
  obtain ⟨ob, rfl⟩ : ∃ ob, oa = some ⟨ob, 0, none⟩ := by
    rcases hown3.form with ⟨_, h⟩ | ⟨g, cap, h1, _⟩
    · have : o.length = 0 := by rw [← ofN_len, h]; rfl
      have := HO.out.2.1
      omega
    · simp only [Value.slice.injEq] at h1
      exact ⟨g, h1.1⟩
  obtain ⟨cur, hcur, htk, hob, hoc, hocm⟩ := own_box (OwnP.row (ofN_len o) hown3)
  have HCU : Hid (∀ (i k : Nat), o[i]? = some k → cur[i]? = some (Value.int .i64 (k : Int))) := fun i k hi => by
    have h1 : ((ofN o).map (Value.int .i64))[i]? = some (Value.int .i64 (k : Int)) := by unfold ofN; simp [hi]
    rw [← htk, List.getElem?_take] at h1
    split at h1
    · exact h1
    · cases h1
  have H3 : Hid (Bag w W3 (cbag w.heap.size (.slice ga n gc) u ⟨x0, y0, x1, y1⟩ (reachL nds ⟨x0, y0, x1, y1⟩ (o.take 0)) ob cur)) := by
    have hx := (H2.out.call hb3).add hcur (by have := H2'.out; omega) (fun p hp => by have := H2.out.lt p hp; omega)
    have e : reachL nds ⟨x0, y0, x1, y1⟩ (o.take 0) = List.replicate n Rc.zero := by rw [HN.out]; rfl
    rw [e]
    exact hx
  obtain ⟨no, hno⟩ : ∃ no, no = o.length := ⟨_, rfl⟩
  have HNO : Hid (no = o.length) := Lib.hid hno
  rw [← hno] at hoc ⊢
  unfold maxLen at hocm
  clear a0 a1 hown3 hb3 hcur htk hob H2 H2' hno HL
  go_wp2_with fail
  go_loopw [20] (fun jv wr => ∃ i : Nat, i ≤ no ∧ jv = .int .i64 i ∧ Bag w wr (cbag w.heap.size (.slice ga n gc) u ⟨x0, y0, x1, y1⟩ (reachL nds ⟨x0, y0, x1, y1⟩ (o.take i)) ob cur)) (fun jv _ => no - (intOf jv).toNat)
  case atStart => exact ⟨0, by omega, rfl, H3.out⟩
  case round =>
    obtain ⟨i, hi, rfl, hr⟩ := hrel
    obtain ⟨vs, hvs⟩ : ∃ vs, vs = reachL nds ⟨x0, y0, x1, y1⟩ (o.take i) := ⟨_, rfl⟩
    have HVS : Hid (vs = reachL nds ⟨x0, y0, x1, y1⟩ (o.take i) ∧ vs.length = n ∧ ∀ q ∈ vs, RcP q) := by
      refine ⟨hvs, by rw [hvs, reachL_len, HN.out], ?_⟩
      rw [hvs]
      exact reachL_pl HGR.out.2.1 fun k hk => HGR.out.1.ra k (HO.out.2.2 k (List.mem_of_mem_take hk))
    rw [← hvs] at hr
    have H4 : Hid (Bag w wr (cbag w.heap.size (.slice ga n gc) u ⟨x0, y0, x1, y1⟩ vs ob cur)) := Lib.hid hr
    clear hr hvs H3
    obtain ⟨wo, hwo⟩ : ∃ wo, wo = wr := ⟨_, rfl⟩
    subst hwo
    by_cases hil : i < no
    · obtain ⟨k, hk⟩ : ∃ k, o[i]? = some k := ⟨_, List.getElem?_eq_getElem (by rw [← HNO.out]; exact hil)⟩
      have hkn : k < n := by rw [HN.out]; exact HO.out.2.2 k (List.mem_of_getElem? hk)
      have HK : Hid (o[i]? = some k ∧ k < nds.length) := ⟨hk, by rw [← HN.out]; exact hkn⟩
      have d0 := H4.out.cell 4 rfl i (HCU.out i k hk)
      have a0 := H4.out.cell 0 rfl 0 rfl
      obtain ⟨gb, go, gcap, ia, ic, pa, pc, hv, hbB, hcap, hcm, k0, k1, k2, s1, s2⟩ := (HG.out wo H4.out.below).1.node (i := k) HK.out.2
      simp only [Value.slice.injEq] at hv
      obtain ⟨rfl, hnn, rfl⟩ := hv
      clear hnn
      obtain ⟨op, hop⟩ : ∃ z, z = (nds.getD k Nd.none).op := ⟨_, rfl⟩
      obtain ⟨ins, hins⟩ : ∃ z, z = (nds.getD k Nd.none).ins := ⟨_, rfl⟩
      obtain ⟨p, hp⟩ : ∃ z, z = (nds.getD k Nd.none).p := ⟨_, rfl⟩
      have HND : Hid (nds.getD k Nd.none = ⟨op, ins, p⟩) := by
        have : nds.getD k Nd.none = ⟨op, ins, p⟩ := by rw [hop, hins, hp]
        exact this
      rw [← hop] at k0
      rw [← hins] at k1 s1
      rw [← hp] at k2 s2
      have HRA : Hid (RaOk ⟨op, ins, p⟩ ∧ ins.length ≤ 8 ∧ ∀ x ∈ ins, -1 ≤ x ∧ x < n) := by
        have h1 := HGR.out.1.ra k HK.out.2
        have h2 := HGR.out.1.gn.rng k HK.out.2
        dsimp only at h1 h2
        rw [HND.out] at h1 h2
        exact ⟨h1, h1.few, by rw [HN.out]; exact h2⟩
      obtain ⟨ia', ic', hv2, hicap, hicm, hin, hcell⟩ := s1.ints
      cases hv2
      have HB : Hid (B ≤ wo.heap.size) := (HG.out wo H4.out.below).2
      have HC : Hid (∀ (W : World), Below wo.heap.size wo W → ∀ j : Nat, j < ins.length → ∃ b o, ia = some ⟨b, o, none⟩ ∧ W.cell? ⟨b, o + j, none⟩ = some (Value.int .i64 (ins.getD j 0))) := fun W hb j hj => by
        obtain ⟨b', o', h1, h2, h3⟩ := hcell j hj
        refine ⟨b', o', h1, ?_⟩
        rw [hb.cell (lt_of_cell (h3 j hj))]
        exact h3 j hj
      have HS2 : Hid (SlOf RInt 1 (· < B) wo (.slice pa p.length pc) p ∧ w.heap.size ≤ wo.heap.size ∧ B ≤ w.heap.size) := ⟨s2, H4.out.below.size, hB⟩
      have HNC : Hid (∀ (W : World), Below wo.heap.size wo W → W.cell? ⟨gb, go + k * 3, none⟩ = some (.int .i64 op) ∧ W.cell? ⟨gb, go + k * 3 + 1, none⟩ = some (.slice ia ins.length ic) ∧ W.cell? ⟨gb, go + k * 3 + 2, none⟩ = some (.slice pa p.length pc)) := fun W hb => ⟨(hb.cell (lt_of_cell k0)).trans k0, (hb.cell (lt_of_cell k1)).trans k1, (hb.cell (lt_of_cell k2)).trans k2⟩
      have HLW : Hid (Below w.heap.size w wo) := H4.out.below
      obtain ⟨m, hm⟩ : ∃ m, m = ins.length := ⟨_, rfl⟩
      obtain ⟨pl, hpl⟩ : ∃ m, m = p.length := ⟨_, rfl⟩
      have HM : Hid (m = ins.length ∧ pl = p.length) := ⟨hm, hpl⟩
      have hm8 : m ≤ 8 := by rw [hm]; exact HRA.out.2.1
      rw [← hm] at k1 hicap HNC
      rw [← hpl] at k2 HNC
      have hk0 : (0 : Int) ≤ (k : Int) := by omega
      have hk1 : (k : Int) < (n : Int) := by omega
      have hi0 : (0 : Int) ≤ (i : Int) := by omega
      have hi1 : (i : Int) < (no : Int) := by omega
      unfold maxLen at hcm hicm
      clear s1 s2 hcell hin hop hins hp hm hpl hk
      go_wp2_with fail
      go_loopw [10, 31] (fun lv jv wq => ∃ j : Nat, j ≤ m ∧ jv = .int .i64 j ∧ Below wo.heap.size wo wq ∧ wq.ownsRow wo.heap.size 25 4 lv j (rcs ((ins.map (rin ⟨x0, y0, x1, y1⟩ vs)).take j))) (fun _ jv _ => m - (intOf jv).toNat)
      case atStart => exact ⟨0, by omega, rfl, Below.refl _ _, World.ownsRow_nil _ _ _ _⟩
      case round =>
        obtain ⟨j, hj, rfl, hq1, hq2⟩ := hrel
        have H5 : Hid (Below wo.heap.size wo wr) := Lib.hid hq1
        have HOW : Hid (wr.ownsRow wo.heap.size 25 4 u10 j (rcs ((ins.map (rin ⟨x0, y0, x1, y1⟩ vs)).take j))) := Lib.hid hq2
        have HBQ : Hid (Bag w wr (cbag w.heap.size (.slice (some ⟨gb, go, none⟩) n gc) u ⟨x0, y0, x1, y1⟩ vs ob cur)) := H4.out.call hq1
        clear hq1 hq2 a0 d0 k0 k1 k2
        by_cases hjl : j < m
        · obtain ⟨b', o', hia, hcx⟩ := HC.out wr H5.out j (by rw [← HM.out.1]; exact hjl)
          subst hia
          obtain ⟨x, hx⟩ : ∃ x, x = ins.getD j 0 := ⟨_, rfl⟩
          have hjx : ins[j]? = some x := by
            have h : j < ins.length := by rw [← HM.out.1]; exact hjl
            rw [hx]
            simp [h]
          have hxr := HRA.out.2.2 x (List.mem_of_getElem? hjx)
          rw [← hx] at hcx
          obtain ⟨l, hl⟩ : ∃ l, l = (ins.map (rin ⟨x0, y0, x1, y1⟩ vs)).take j := ⟨_, rfl⟩
          obtain ⟨q, hq⟩ : ∃ q, q = rin ⟨x0, y0, x1, y1⟩ vs x := ⟨_, rfl⟩
          have HSN : Hid (rcs ((ins.map (rin ⟨x0, y0, x1, y1⟩ vs)).take (j + 1)) = rcs l ++ cl4 q) := by
            have : rcs ((ins.map (rin ⟨x0, y0, x1, y1⟩ vs)).take (j + 1)) = rcs l ++ cl4 q := by
              rw [List.take_add_one, List.getElem?_map, hjx, rcs_app, hl, hq]
              rfl
            exact this
          rw [← hl] at HOW
          have HM1 : Hid (j + 1 ≤ maxLen ∧ (j + 1) * 32 ≤ 140737488355328) := by constructor <;> (try unfold maxLen) <;> omega
          have HAL : Hid (∀ (t : TypeId), (wr.alloc (.cells #[.int .i64 q.x0, .int .i64 q.y0, .int .i64 q.x1, .int .i64 q.y1] t)).ownsRow wo.heap.size 25 4 u10 j (rcs l)) := fun t => owns_below HOW.out (below_new wr _) (Nat.le_refl _)
          have HBX : Hid (∀ (t : TypeId), Box (wr.alloc (.cells #[.int .i64 q.x0, .int .i64 q.y0, .int .i64 q.x1, .int .i64 q.y1] t)) wr.heap.size (cl4 q)) := fun t => Box.new wr (cl4 q) t
          have HEN : Hid (∀ (t : TypeId) (w8 : World) (u10' : Value), (wr.alloc (.cells #[.int .i64 q.x0, .int .i64 q.y0, .int .i64 q.x1, .int .i64 q.y1] t)).grownBy w8 u10.ownBlock → Below wo.heap.size wo w8) := fun t w8 _ hg =>
            below_grown (H5.out.alloc H5.out.size _) hg (HAL.out t) (Nat.le_refl _) (by rw [size_alloc]; have := H5.out.size; omega)
          have hj0 : (0 : Int) ≤ (j : Int) := by omega
          have hj1 : (j : Int) < (m : Int) := by omega
          have HBS : Hid (wo.heap.size ≤ wr.heap.size) := H5.out.size
          by_cases hx1 : x = -1
          · subst hx1
            obtain rfl : q = ⟨x0, y0, x1, y1⟩ := by rw [hq]; exact if_pos rfl
            have a0 := HBQ.out.cell 1 rfl 0 rfl
            have a1 := HBQ.out.cell 1 rfl 1 rfl
            have a2 := HBQ.out.cell 1 rfl 2 rfl
            have a3 := HBQ.out.cell 1 rfl 3 rfl
            clear hx hjx hxr hl hq
            go_wp2_with (at_builtin; (refine wpList_append_lies _ rfl _ _ 84 rfl wo.heap.size 25 iR (.agg #[.int .i64 0, .int .i64 0, .int .i64 0, .int .i64 0]) 4 32 Tryd.underlying84 hiR hz0 hz1 hz2 rfl (by decide) u10 j (rcs l) rfl (HAL.out _) _ 1 1 (cl4 ⟨x0, y0, x1, y1⟩) rfl rfl (news_at' (HBX.out _)) (by simp [Value.oneCell']) (by decide) HM1.out.1 HM1.out.2 (by simp; have := HBS.out; omega) _ rfl ?_; intro g8 c8 w8 hown8 hgrow8 hat8 hlt8; have H6 : Hid (Below wo.heap.size wo w8 ∧ w8.ownsRow wo.heap.size 25 4 (.slice (some ⟨g8, 0, none⟩) (j + 1) c8) (j + 1) (rcs ((ins.map (rin ⟨x0, y0, x1, y1⟩ vs)).take (j + 1)))) := ⟨HEN.out _ w8 u10 hgrow8, by rw [HSN.out]; exact hown8⟩; clear hown8 hgrow8 hat8))
            go_roundw
            case rel => exact ⟨j + 1, by omega, by go_num, H6.out.1, H6.out.2⟩
            case measure => simp [intOf]; omega
          · obtain ⟨y, rfl⟩ : ∃ y : Nat, x = y := ⟨x.toNat, by omega⟩
            have hyn : y < n := by omega
            have hqy : vs[y]? = some q := by
              have h : y < vs.length := by rw [HVS.out.2.1]; exact hyn
              rw [hq]
              unfold rin
              rw [if_neg hx1, Int.toNat_natCast]
              simp [h]
            obtain ⟨a0, a1, a2, a3⟩ := rbox_get (HBQ.out.box 3 rfl) hqy
            have d1 : ((y : Int) == -1) = false := by simp
            have hy0 : (0 : Int) ≤ (y : Int) := by omega
            have hy1 : (y : Int) < (n : Int) := by omega
            clear hx hjx hxr hl hq hx1 hqy
            go_wp2_with (at_builtin; (refine wpList_append_lies _ rfl _ _ 84 rfl wo.heap.size 25 iR (.agg #[.int .i64 0, .int .i64 0, .int .i64 0, .int .i64 0]) 4 32 Tryd.underlying84 hiR hz0 hz1 hz2 rfl (by decide) u10 j (rcs l) rfl (HAL.out _) _ 1 1 (cl4 q) rfl rfl (news_at' (HBX.out _)) (by simp [Value.oneCell']) (by decide) HM1.out.1 HM1.out.2 (by simp; have := HBS.out; omega) _ rfl ?_; intro g8 c8 w8 hown8 hgrow8 hat8 hlt8; have H6 : Hid (Below wo.heap.size wo w8 ∧ w8.ownsRow wo.heap.size 25 4 (.slice (some ⟨g8, 0, none⟩) (j + 1) c8) (j + 1) (rcs ((ins.map (rin ⟨x0, y0, x1, y1⟩ vs)).take (j + 1)))) := ⟨HEN.out _ w8 u10 hgrow8, by rw [HSN.out]; exact hown8⟩; clear hown8 hgrow8 hat8))
            go_roundw
            case rel => exact ⟨j + 1, by omega, by go_num, H6.out.1, H6.out.2⟩
            case measure => simp [intOf]; omega
        · have ej : j = m := by omega
          subst ej
          have HLS : Hid (SlOf RRc 4 (· < wr.heap.size) wr u10 (ins.map (rin ⟨x0, y0, x1, y1⟩ vs)) ∧ ∀ q ∈ ins.map (rin ⟨x0, y0, x1, y1⟩ vs), RcP q) := by
            have h := HOW.out
            rw [HM.out.1, List.take_of_length_le (by simp)] at h
            have hp : ∀ q ∈ ins.map (rin ⟨x0, y0, x1, y1⟩ vs), RcP q := fun q hq => by
              obtain ⟨x, _, rfl⟩ := List.mem_map.1 hq
              exact rin_pl HGR.out.2.1 HVS.out.2.2 x
            exact ⟨own_rc (by simpa using h) hp, hp⟩
          obtain ⟨z, hz⟩ : ∃ z, z = reachN ⟨op, ins, p⟩ (ins.map (rin ⟨x0, y0, x1, y1⟩ vs)) := ⟨_, rfl⟩
          have HZ : Hid (z = reachN ⟨op, ins, p⟩ (ins.map (rin ⟨x0, y0, x1, y1⟩ vs))) := Lib.hid hz
          have HRE : Hid (Calls Tryd.prog 41 #[.agg #[.int .i64 op, .slice ia j ic, .slice pa pl pc], u10] wr (PPost wr (rv z))) := by
            have h := reach_c op (.slice ia j ic) (.slice pa pl pc) u10 ins p (ins.map (rin ⟨x0, y0, x1, y1⟩ vs)) wr (F := (· < wr.heap.size)) (fun b hb => hb) (by rw [HM.out.2]; exact (HS2.out.1.same RInt.ok (Same.of_below H5.out fun b (hb : b < B) => Nat.lt_of_lt_of_le hb HB.out)).mono RInt.ok fun b (hb : b < B) => Nat.lt_of_lt_of_le hb (Nat.le_trans HB.out H5.out.size)) ⟨_, _, _, rfl⟩ HLS.out.1 HRA.out.1 (by simp) HLS.out.2
            rw [hz]
            exact h
          obtain ⟨n0, n1, n2⟩ := HNC.out wr H5.out
          have a0 := HBQ.out.cell 0 rfl 0 rfl
          clear hz
          go_wp2_with fail
          refine HRE.out.mono ?_; rintro e W6 ⟨rfl, hb6⟩
          have H6 : Hid (Bag w W6 (cbag w.heap.size (.slice (some ⟨gb, go, none⟩) n gc) u ⟨x0, y0, x1, y1⟩ vs ob cur)) := HBQ.out.call hb6
          obtain ⟨v, hv⟩ : ∃ v, vs[k]? = some v := ⟨_, List.getElem?_eq_getElem (by rw [HVS.out.2.1]; exact hkn)⟩
          obtain ⟨a0', a1', a2', a3'⟩ := rbox_get (H6.out.box 3 rfl) hv
          have f0 := H6.out.frozen 3 rfl (k * 4)
          have f1 := H6.out.frozen 3 rfl (k * 4 + 1)
          have f2 := H6.out.frozen 3 rfl (k * 4 + 2)
          have f3 := H6.out.frozen 3 rfl (k * 4 + 3)
          have H7 : Hid (Bag w ((((W6.setCell ⟨w.heap.size + 1 + 1 + 1, k * 4, none⟩ (.int .i64 z.x0)).setCell ⟨w.heap.size + 1 + 1 + 1, k * 4 + 1, none⟩ (.int .i64 z.y0)).setCell ⟨w.heap.size + 1 + 1 + 1, k * 4 + 2, none⟩ (.int .i64 z.x1)).setCell ⟨w.heap.size + 1 + 1 + 1, k * 4 + 3, none⟩ (.int .i64 z.y1)) (cbag w.heap.size (.slice (some ⟨gb, go, none⟩) n gc) u ⟨x0, y0, x1, y1⟩ (reachL nds ⟨x0, y0, x1, y1⟩ (o.take (i + 1))) ob cur)) := by
            have e : reachL nds ⟨x0, y0, x1, y1⟩ (o.take (i + 1)) = vs.set k z := by
              rw [List.take_add_one, HK.out.1]
              show reachL nds ⟨x0, y0, x1, y1⟩ (o.take i ++ [k]) = _
              rw [reachL_snoc, ← HVS.out.1]
              unfold reachS
              rw [HND.out, HZ.out]
            rw [e]
            exact bag_setR H6.out 3 rfl k z
          clear hv n0 n1 n2 a0 hb6 H6 HRE
          go_wp2_with fail
          go_roundw
          case rel =>
            exact ⟨i + 1, by omega, by go_num, H7.out⟩
          case measure => simp [intOf]; omega
    · have ei : i = no := by omega
      subst ei
      have hRv : vs[u]? = some R := by
        have h1 := HRR.out
        have h2 := HVS.out.1
        rw [HNO.out, List.take_length] at h2
        rw [← h2, Int.toNat_natCast] at h1
        have h : u < vs.length := by rw [HVS.out.2.1]; omega
        rw [h1]
        simp [h]
      obtain ⟨a0, a1, a2, a3⟩ := rbox_get (H4.out.box 3 rfl) hRv
      have g1 := H4.out.cell 0 rfl 1 rfl
      have hu0 : (0 : Int) ≤ (u : Int) := by omega
      obtain ⟨r0, r1, r2, r3⟩ := box4 (H4.out.box 2 rfl)
      have f0 := H4.out.frozen 2 rfl 0
      have f1 := H4.out.frozen 2 rfl 1
      have f2 := H4.out.frozen 2 rfl 2
      have f3 := H4.out.frozen 2 rfl 3
      clear hRv
      go_wp2_with fail
      have H5 := H4.out.set4 2 rfl (.int .i64 R.x0) (.int .i64 R.y0) (.int .i64 R.x1) (.int .i64 R.y1)
      exact ret_rect (g := w.heap.size + 1 + 1) (r := R) rfl rfl (H5.box 2 rfl) rfl ⟨rfl, H5.below⟩
theorem reachAll_c (B : Nat) (nv : Value) (g : Fg) (r : Rc) (w : World) (hg : GoodR g) (hgr : Gr B w nv g.nds) (hB : B ≤ w.heap.size) (hr : RcP r) :
    Calls Tryd.prog 23 #[.agg #[nv, .int .i64 g.out], rv r] w (PPost w (rv (reachG g r))) := by
  obtain ⟨R, hR⟩ : ∃ R, R = reachG g r := ⟨_, rfl⟩
  have HC : Hid (∀ W, Below w.heap.size w W → Calls Tryd.prog 40 #[.agg #[nv, .int .i64 g.out], rv r, .func (.func 41) #[] #[]] W (PPost W (rv R))) := fun W hb => by
    rw [hR]
    exact carried_c B nv g r W hg (hgr.below hb hB) (Nat.le_trans hB hb.size) hr
  rw [← hR]
  obtain ⟨x0, y0, x1, y1⟩ := r
  obtain ⟨nds, out⟩ := g
  obtain ⟨ga, gc, rfl⟩ := hgr.isSl
  dsimp only at HC ⊢
  obtain ⟨n, hn⟩ : ∃ n, n = nds.length := ⟨_, rfl⟩
  rw [← hn] at HC ⊢
  have H0 : Hid (Bag w (((w.alloc (.cells #[.slice ga n gc, .int .i64 out] 33)).alloc (.cells (cs4 x0 y0 x1 y1) 25)).alloc (.cells (cs4 0 0 0 0) 25)) [(w.heap.size, [.slice ga n gc, .int .i64 out]), (w.heap.size + 1, cl4 ⟨x0, y0, x1, y1⟩), (w.heap.size + 1 + 1, cl4 ⟨0, 0, 0, 0⟩)]) := bag3 w [.slice ga n gc, .int .i64 out] (cl4 ⟨x0, y0, x1, y1⟩) (cl4 ⟨0, 0, 0, 0⟩) _ _ _
  clear hg hgr hr hR hn
  go_enter Tryd.func23, Tryd.ntmps23
  go_wp2_with fail
  refine (HC.out _ H0.out.below).mono ?_; rintro e W1 ⟨rfl, hb1⟩
  have H1 : Hid (Bag w W1 [(w.heap.size, [.slice ga n gc, .int .i64 out]), (w.heap.size + 1, cl4 ⟨x0, y0, x1, y1⟩), (w.heap.size + 1 + 1, cl4 ⟨0, 0, 0, 0⟩)]) := H0.out.call hb1
  clear hb1 H0 HC
  obtain ⟨r0, r1, r2, r3⟩ := box4 (H1.out.box 2 rfl)
  have f0 := H1.out.frozen 2 rfl 0
  have f1 := H1.out.frozen 2 rfl 1
  have f2 := H1.out.frozen 2 rfl 2
  have f3 := H1.out.frozen 2 rfl 3
  go_wp2_with fail
  have H2 := H1.out.set4 2 rfl (.int .i64 R.x0) (.int .i64 R.y0) (.int .i64 R.x1) (.int .i64 R.y1)
  exact ret_rect (g := w.heap.size + 1 + 1) (r := R) rfl rfl (H2.box 2 rfl) rfl ⟨rfl, H2.below⟩
end Go.Proofs.YtgodhpampaleeaaDoor
