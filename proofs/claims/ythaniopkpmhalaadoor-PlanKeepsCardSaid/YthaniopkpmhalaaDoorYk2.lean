/- Texts joined: XYk2. -/
import Derived.Test.YthaniopkpmhalaaDoorYt
import Derived.Test.YthaniopkpmhalaaDoorKp
import Derived.Test.YthaniopkpmhalaaDoorAh
set_option maxRecDepth 4000
/- The walk of 'PlanKeeps'. (Printed.) -/
namespace Go.Proofs.YthaniopkpmhalaaDoor
open Go.RowKit Go.Bx Go.Od Go.Hp
attribute [local go_sem ↓] Go.wp_at_zero Go.wp_at_succ
set_option linter.unusedVariables false

theorem news_three {W : World} {g : Nat} {x y z : Value} {t : TypeId} (h : W.heap[g]? = some (.cells #[x, y, z] t (0, 0))) : ∀ j u, [x, y, z][j]? = some u → W.cell? ((⟨g, 0, none⟩ : Addr).add j) = some u := by
  intro j u hu
  have hb : Box W g [x, y, z] := ⟨t, h⟩
  rw [Go.WideShapes.add_plain, Nat.zero_add]
  exact hb.cell j hu
/-- 'append([]int{}, xs...)' -/
theorem copy_ints {w : World} {B g C : Nat} (t : TypeId) (i : TypeInfo) (bytes : Nat) (ht : Tryd.prog.underlying t = some (.slice 3)) (hi : Tryd.prog.info? 3 = some i) (hz : i.zero = some (.int .i64 0)) (hsize : i.size = 1) (hby : i.bytes = bytes)
    (hv : w.ownsRow B 3 1 (.slice (some ⟨g, 0, none⟩) 0 0) 0 []) {a : Option Addr} {xs : List Int} {c : Nat} (hs : SlOf RInt 1 (· < C) w (.slice a xs.length c) xs) (hl : xs.length * bytes ≤ 140737488355328) (hB : B ≤ w.heap.size) :
    ∃ a' c' w', (Builtin.append_ #[t, t] t #[.slice (some ⟨g, 0, none⟩) 0 0, .slice a xs.length c]).run Tryd.prog w = .ok (.slice a' xs.length c') w' ∧ OwnP w' B (.slice a' xs.length c') xs ∧ Below w.heap.size w w' := by
  obtain ⟨a2, cap, hv2, hc, hm, _, hcell⟩ := hs.ints
  simp only [Value.slice.injEq] at hv2
  obtain ⟨rfl, _, rfl⟩ := hv2
  exact app_empty (P := Tryd.prog) t 3 i (.int .i64 0) bytes ht hi hz hsize hby rfl hv a xs.length c (xs.map (Value.int .i64)) (by simp) (fun b hbe j u hu => by
      have hj : j < xs.length := by have := (List.getElem?_eq_some_iff.1 hu).1; simpa using this
      obtain ⟨b', o, h1, _, h2⟩ := hcell j hj
      rw [hbe] at h1
      cases h1
      rw [Go.WideShapes.add_plain, h2 j hj, ← hu]
      simp [hj]) (fun u hu => by obtain ⟨x, _, rfl⟩ := List.mem_map.1 hu; rfl) (fun hn => by
      by_cases h : xs.length = 0
      · exact h
      · obtain ⟨b', o, h1, _⟩ := hcell 0 (by omega)
        rw [hn] at h1; cases h1) (Nat.le_trans hc hm) hl hB
/-- all that was there when the copy was done is as it was -/
def BG (w wC : World) (nv wv : Value) (out : Int) (H : Nat) (W : World) : Prop := Box W w.heap.size [nv, .int .i64 out] ∧ Box W H [wv, .int .i64 out] ∧ Below wC.heap.size wC W ∧ w.heap.size < wC.heap.size ∧ H < wC.heap.size
theorem BG.call {w wC W W' : World} {nv wv : Value} {out : Int} {H : Nat} (h : BG w wC nv wv out H W) (hb : Below W.heap.size W W') : BG w wC nv wv out H W' := ⟨h.1.call hb, h.2.1.call hb, h.2.2.1.trans (hb.mono h.2.2.1.size), h.2.2.2⟩
theorem BG.set {w wC W : World} {nv wv : Value} {out : Int} {H : Nat} (h : BG w wC nv wv out H W) {p : Addr} (hp : wC.heap.size ≤ p.block) (v : Value) : BG w wC nv wv out H (W.setCell p v) := ⟨h.1.set (by have := h.2.2.2.1; omega) _, h.2.1.set (by have := h.2.2.2.2; omega) _, h.2.2.1.setCell hp _, h.2.2.2⟩
/-- a filter, what is wanted and how plans are made, boxed; the types are known too -/
def CB3 (w W : World) (a b : Value) (r : Rc) (c : Cf) : Prop := Box W w.heap.size [a, b] ∧ TB W (w.heap.size + 1) (cl4 r) 26 ∧ TB W (w.heap.size + 1 + 1) [.bool c.fuse, .bool c.al, .bool c.roi, .bool c.dam, .int .i64 c.room] 28 ∧ Below w.heap.size w W
theorem CB3.new (w : World) (a b : Value) (r : Rc) (c : Cf) (t1 : TypeId) : CB3 w (((w.alloc (.cells #[a, b] t1)).alloc (.cells (cs4 r.x0 r.y0 r.x1 r.y1) 26)).alloc (.cells #[.bool c.fuse, .bool c.al, .bool c.roi, .bool c.dam, .int .i64 c.room] 28)) a b r c := by
  have h0 := Box.new w [a, b] t1
  have h1 := TB.new (w.alloc (.cells #[a, b] t1)) (cl4 r) 26
  have h2 := TB.new ((w.alloc (.cells #[a, b] t1)).alloc (.cells (cs4 r.x0 r.y0 r.x1 r.y1) 26)) [.bool c.fuse, .bool c.al, .bool c.roi, .bool c.dam, .int .i64 c.room] 28
  simp only [size_alloc] at h1 h2
  have b0 := below_new w (.cells #[a, b] t1)
  have b1 := b0.alloc b0.size (.cells (cs4 r.x0 r.y0 r.x1 r.y1) 26)
  exact ⟨(h0.alloc _).alloc _, h1.call (below_new _ _), h2, b1.alloc b1.size _⟩
theorem CB3.call {w W W' : World} {a b : Value} {r : Rc} {c : Cf} (h : CB3 w W a b r c) (hb : Below W.heap.size W W') : CB3 w W' a b r c := ⟨h.1.call hb, h.2.1.call hb, h.2.2.1.call hb, h.2.2.2.trans (hb.mono h.2.2.2.size)⟩
/-- between the rounds that copy -/
structure KJ (w : World) (nv : Value) (out : Int) (r : Rc) (c : Cf) (H : Nat) (wv : Value) (cells : List Value) (nds : List Nd) (W : World) : Prop extends KI w nv out H wv cells nds W where
  rb : TB W (w.heap.size + 1) (cl4 r) 26
  cb : TB W (w.heap.size + 1 + 1) [.bool c.fuse, .bool c.al, .bool c.roi, .bool c.dam, .int .i64 c.room] 28
section
variable {w W W' : World} {nv wv : Value} {out : Int} {r : Rc} {c : Cf} {H : Nat} {cells : List Value} {nds : List Nd}
theorem KJ.call (h : KJ w nv out r c H wv cells nds W) (hb : Below W.heap.size W W') : KJ w nv out r c H wv cells nds W' := ⟨h.toKI.call hb, h.rb.call hb, h.cb.call hb⟩
theorem KJ.app (h : KJ w nv out r c H wv cells nds W) (hg : W.grownBy W' wv.ownBlock) (hown : W'.ownsRow (w.heap.size + 1) 44 3 wv nds.length cells) : KJ w nv out r c H wv cells nds W' :=
  ⟨h.toKI.app hg hown, h.rb.grown hg (own_apart h.own h.rb (by decide)), h.cb.grown hg (own_apart h.own h.cb (by decide))⟩
theorem KJ.done {x : Nd} {v s t : Value} (h : KJ w nv out r c H wv cells nds W) (hown : W.ownsRow (w.heap.size + 1) 44 3 v (nds.length + 1) (cells ++ [.int .i64 x.op, s, t])) (hs : OwnP W (w.heap.size + 1) s x.ins) (ht : OwnP W (w.heap.size + 1) t x.p) :
    KJ w nv out r c H v (cells ++ [.int .i64 x.op, s, t]) (nds ++ [x]) (W.setCell ⟨H, 0, none⟩ v) := by
  have hH : TB W H [wv, .int .i64 out] 24 := h.hb
  exact ⟨h.toKI.done hown hs ht, h.rb.set (h.rb.apart hH (by decide)) _, h.cb.set (h.cb.apart hH (by decide)) _⟩
end
/-- passes whose rows of nodes are written over -/
def PZ (B : Nat) (pl : List (Value × Value × Ps)) (pv : Value) (W : World) : Prop := W.ownsRow B 37 8 pv pl.length (pcs pl) ∧ ∀ x ∈ pl, ∃ xs : List Int, xs.length = x.2.2.nodes.length ∧ OwnP W B x.1 xs
theorem PR.pz {B : Nat} {pl : List (Value × Value × Ps)} {pv : Value} {W : World} (h : PR B pl pv W) : PZ B pl pv W := ⟨h.1, fun x hx => ⟨_, ofN_len _, (h.2 x hx).1⟩⟩
theorem PZ.call {B : Nat} {pl : List (Value × Value × Ps)} {pv : Value} {W W' : World} (h : PZ B pl pv W) (hb : Below W.heap.size W W') : PZ B pl pv W' := ⟨owns_below h.1 hb (Nat.le_refl _), fun x hx => by
  obtain ⟨xs, h1, h2⟩ := h.2 x hx
  exact ⟨xs, h1, h2.below hb⟩⟩
theorem PZ.at {B : Nat} {pl : List (Value × Value × Ps)} {a : Option Addr} {n c : Nat} {W : World} (h : PZ B pl (.slice a n c) W) (hn : pl.length = n) {i : Nat} (hi : i < n) :
    ∃ g na nc x, a = some ⟨g, 0, none⟩ ∧ B ≤ g ∧ (∀ k, W.frozen? ⟨g, k, none⟩ = false) ∧ pl[i]? = some x ∧ W.cell? ⟨g, i * 8, none⟩ = some (.slice na x.2.2.nodes.length nc) ∧ (∃ xs : List Int, xs.length = x.2.2.nodes.length ∧ OwnP W B (.slice na x.2.2.nodes.length nc) xs) ∧
      ∀ k u, k < 8 → (pcl x.1 x.2.1 x.2.2)[k]? = some u → W.cell? ⟨g, i * 8 + k, none⟩ = some u := by
  obtain ⟨⟨s, t, p⟩, hx⟩ : ∃ x, pl[i]? = some x := ⟨_, List.getElem?_eq_getElem (by omega)⟩
  obtain ⟨xs, hl, ho⟩ := h.2 _ (List.mem_of_getElem? hx)
  dsimp only at hl ho
  obtain ⟨na, nc, rfl⟩ := own_slN (n := p.nodes.length) ho hl.symm
  have hr := h.1
  have hlp := pcs_len pl
  rcases hr.2 with ⟨h1, h0⟩ | ⟨g, cap, cur, h1, hB, hb, hle, hcm, hsz, htk⟩
  · omega
  · simp only [Value.slice.injEq] at h1
    obtain ⟨rfl, hq, rfl⟩ := h1
    subst hn
    have hc : ∀ k u, k < 8 → (pcl (.slice na p.nodes.length nc) t p)[k]? = some u → W.cell? ⟨g, i * 8 + k, none⟩ = some u := fun k u hk hu => by
      have h2 := pcs_get pl i _ hx k u hu
      rw [World.ownsRow.cellAt hr (i * 8 + k) (by omega), h2]
    exact ⟨g, na, nc, _, rfl, hB, fun k => World.ownsRow.frozenAt hr k, hx, hc 0 _ (by omega) rfl, ⟨xs, hl, ho⟩, hc⟩
/-- a number of a row of nodes is written -/
theorem PZ.store {B : Nat} {pl : List (Value × Value × Ps)} {pv : Value} {W : World} (h : PZ B pl pv W) {g k n c : Nat} {ys : List Int} (hi : OwnP W B (.slice (some ⟨g, 0, none⟩) n c) ys) (hy : ys.length = n) (v : Int) : PZ B pl pv (W.setCell ⟨g, k, none⟩ (.int .i64 v)) := by
  refine ⟨row_keep2 ⟨g, k, none⟩ h.1 (fun e => rows_apart h.1 hi (by decide) e rfl) _, fun x hx => ?_⟩
  obtain ⟨xs, h1, h2⟩ := h.2 x hx
  by_cases e : x.1.ownBlock = some g
  · obtain ⟨a, c', hv⟩ := own_slv h2
    rw [hv] at h2 e ⊢
    rcases h2.form with ⟨ha, _⟩ | ⟨g', cap, ha, _⟩
    · rw [ha] at e; cases e
    · rw [ha] at e h2 ⊢
      simp [Value.ownBlock] at e
      subst e
      exact ⟨xs.set k v, by rw [List.length_set]; exact h1, OwnP.stored rfl h2 k v⟩
  · exact ⟨xs, h1, row_keep2 ⟨g, k, none⟩ h2 e _⟩
/-- a pass's cell is written that is no row -/
theorem PZ.putk {B : Nat} {pl : List (Value × Value × Ps)} {g n c : Nat} {W : World} (h : PZ B pl (.slice (some ⟨g, 0, none⟩) n c) W) {i : Nat} {x : Value × Value × Ps} (hx : pl[i]? = some x) (k : Nat) (hk : k < 8) (u : Value) (y : Ps) (he : (pcl x.1 x.2.1 x.2.2).set k u = pcl x.1 x.2.1 y) (hy : y.nodes = x.2.2.nodes) : PZ B (pl.set i (x.1, x.2.1, y)) (.slice (some ⟨g, 0, none⟩) n c) (W.setCell ⟨g, i * 8 + k, none⟩ u) := by
  have hil : i < pl.length := (List.getElem?_eq_some_iff.1 hx).1
  have hn : n = pl.length := by
    rcases h.1.2 with ⟨h1, _⟩ | ⟨g', cap, cur, h1, _⟩
    · cases h1
    · cases h1; rfl
  subst hn
  refine ⟨?_, fun z hz => ?_⟩
  · rw [List.length_set, ← pcs_set pl i x k u (x.1, x.2.1, y) hx hk he]
    exact row_put h.1 _ _ (by omega)
  · have : ∃ xs : List Int, xs.length = z.2.2.nodes.length ∧ OwnP W B z.1 xs := by
      rcases List.mem_or_eq_of_mem_set hz with h2 | rfl
      · exact h.2 z h2
      · have := h.2 x (List.mem_of_getElem? hx)
        dsimp only
        rw [hy]
        exact this
    obtain ⟨xs, h1, h2⟩ := this
    exact ⟨xs, h1, row_keep2 ⟨g, i * 8 + k, none⟩ h2 (fun e => rows_apart h2 h.1 (by decide) e rfl) _⟩
theorem PZ.box {B : Nat} {pl : List (Value × Value × Ps)} {g n c : Nat} {W : World} (h : PZ B pl (.slice (some ⟨g, 0, none⟩) n c) W) {i : Nat} {s t : Value} {y : Ps} (hx : pl[i]? = some (s, t, y)) (r : Rc) : PZ B (pl.set i (s, t, { y with box := r })) (.slice (some ⟨g, 0, none⟩) n c) ((((W.setCell ⟨g, i * 8 + 2, none⟩ (.int .i64 r.x0)).setCell ⟨g, i * 8 + 3, none⟩ (.int .i64 r.y0)).setCell ⟨g, i * 8 + 4, none⟩ (.int .i64 r.x1)).setCell ⟨g, i * 8 + 5, none⟩ (.int .i64 r.y1)) := by
  have hil : i < pl.length := (List.getElem?_eq_some_iff.1 hx).1
  have h1 := h.putk hx 2 (by omega) (.int .i64 r.x0) { y with box := { y.box with x0 := r.x0 } } rfl rfl
  have h2 := h1.putk (i := i) (x := (s, t, { y with box := { y.box with x0 := r.x0 } })) (by simp [hil]) 3 (by omega) (.int .i64 r.y0) { y with box := { y.box with x0 := r.x0, y0 := r.y0 } } rfl rfl
  rw [set_set] at h2
  have h3 := h2.putk (i := i) (x := (s, t, { y with box := { y.box with x0 := r.x0, y0 := r.y0 } })) (by simp [hil]) 4 (by omega) (.int .i64 r.x1) { y with box := { y.box with x0 := r.x0, y0 := r.y0, x1 := r.x1 } } rfl rfl
  rw [set_set] at h3
  have h4 := h3.putk (i := i) (x := (s, t, { y with box := { y.box with x0 := r.x0, y0 := r.y0, x1 := r.x1 } })) (by simp [hil]) 5 (by omega) (.int .i64 r.y1) { y with box := r } rfl rfl
  rw [set_set] at h4
  exact h4
/-- a number of a row of one's own is there, and may be written -/
theorem row_spot {w : World} {B : Nat} {a : Option Addr} {n c : Nat} {xs : List Int} (h : OwnP w B (.slice a n c) xs) {j : Nat} (hj : j < xs.length) : ∃ g, a = some ⟨g, 0, none⟩ ∧ B ≤ g ∧ w.cell? ⟨g, j, none⟩ = some (.int .i64 (xs.getD j 0)) ∧ w.frozen? ⟨g, j, none⟩ = false := by
  rcases h.form with ⟨_, h'⟩ | ⟨g, cap, h1, hB, _, _, _, _, hf, hc⟩
  · rw [h'] at hj; simp at hj
  · simp only [Value.slice.injEq] at h1
    obtain ⟨rfl, _, _⟩ := h1
    exact ⟨g, rfl, hB, hc j hj, hf j⟩
theorem plS_short {nds : List Nd} {out : Int} {c : Cf} {want : Rc} (h : PlOk nds out want) : ∀ p ∈ (plS nds out c want).ps, p.nodes.length ≤ 1000 := fun p hp => by
  have ha : Alk (pss nds out c want) (plS nds out c want).ps := (asg_two nds (c := c) (d := { c with al := false }) rfl _).sa
  obtain ⟨i, hi, rfl⟩ := List.mem_iff_getElem.1 hp
  have e1 : (plS nds out c want).ps[i] = (plS nds out c want).ps.getD i Ps.none := by simp [hi]
  rw [e1, ha.nodes]
  rw [ha.1, pss_len] at hi
  rw [(pss_all (want := want) hi).2.2.1]
  have := grp_lens h.sg.toGood hi
  omega
/-- while the plan is written over -/
def KZ (w wC : World) (nv wv : Value) (out : Int) (H q n : Nat) (pv : Value) (s0 s1 s2 s3 sn pk : Int) (W : World) : Prop := BG w wC nv wv out H W ∧ TB W q [pv, .int .i64 s0, .int .i64 s1, .int .i64 s2, .int .i64 s3, .int .i64 sn, .int .i64 pk] 33 ∧ ∃ pl, pl.length = n ∧ PZ wC.heap.size pl pv W ∧ ∀ x ∈ pl, x.2.2.nodes.length ≤ 1000
set_option maxRecDepth 10000 in
set_option maxHeartbeats 12800000 in
theorem planKeeps_walk (nv : Value) (nds : List Nd) (out : Int) (want : Rc) (c : Cf) (w : World) (ht : Tabs w) (hg : Gr w.heap.size w nv nds) :
    Calls Tryd.prog 6 #[.agg #[nv, .int .i64 out], rv want, cfv c] w (TPost w) := by
  have HG : Hid (Gr w.heap.size w nv nds ∧ Tabs w) := ⟨hg, ht⟩
  obtain ⟨ga, gc, rfl⟩ := hg.isSl
  have hgl := hg.len_le
  obtain ⟨x0, y0, x1, y1⟩ := want
  obtain ⟨fu, al, ro, da, rm⟩ := c
  clear hg ht
  have H1 : Hid (CB3 w (((w.alloc (.cells #[.slice ga nds.length gc, .int .i64 out] 24)).alloc (.cells (cs4 x0 y0 x1 y1) 26)).alloc (.cells #[.bool fu, .bool al, .bool ro, .bool da, .int .i64 rm] 28)) (.slice ga nds.length gc) (.int .i64 out) ⟨x0, y0, x1, y1⟩ ⟨fu, al, ro, da, rm⟩) := CB3.new w _ _ ⟨x0, y0, x1, y1⟩ ⟨fu, al, ro, da, rm⟩ _
  go_enter Tryd.func6, Tryd.ntmps6
  go_wp2_with fail
  generalize (((w.alloc (.cells #[.slice ga nds.length gc, .int .i64 out] 24)).alloc (.cells (cs4 x0 y0 x1 y1) 26)).alloc (.cells #[.bool fu, .bool al, .bool ro, .bool da, .int .i64 rm] 28)) = W1 at *
  refine (awake19_c W1).mono ?_; rintro e w2 ⟨rfl, hb2⟩
  have H2 : Hid (CB3 w w2 (.slice ga nds.length gc) (.int .i64 out) ⟨x0, y0, x1, y1⟩ ⟨fu, al, ro, da, rm⟩) := H1.out.call hb2
  clear hb2 H1
  have g0 := H2.out.1.cell 0 rfl
  have g1 := H2.out.1.cell 1 rfl
  obtain ⟨r0, r1, r2, r3⟩ := box4 H2.out.2.1.box
  go_wp2_with fail
  refine (right19_c w.heap.size _ nds out ⟨x0, y0, x1, y1⟩ w2 (HG.out.2.below H2.out.2.2.2) (HG.out.1.below H2.out.2.2.2 (Nat.le_refl _)) H2.out.2.2.2.size).mono ?_; rintro e w3 ⟨rfl, hb3⟩
  have H3 : Hid (CB3 w w3 (.slice ga nds.length gc) (.int .i64 out) ⟨x0, y0, x1, y1⟩ ⟨fu, al, ro, da, rm⟩) := H2.out.call hb3
  clear g0 g1 r0 r1 r2 r3 hb3 H2
  obtain ⟨r, hr⟩ : ∃ r, r = rightP nds out ⟨x0, y0, x1, y1⟩ := ⟨_, rfl⟩
  rw [← hr]
  cases r with
  | false =>
    clear hr
    go_wp2_with fail
    refine (awake19_c w3).mono ?_; rintro e w4 ⟨rfl, hb4⟩
    have HE : Hid (Below w.heap.size w w4) := H3.out.2.2.2.trans (hb4.mono H3.out.2.2.2.size)
    clear H3 hb4
    go_wp2_with fail
    go_ret
    exact ⟨rfl, HE.out⟩
  | true =>
  have HP : Hid (PlOk nds out ⟨x0, y0, x1, y1⟩) := plOk_of hr.symm
  have HFW : Hid (nds.length ≤ 100 ∧ ∀ i, i < nds.length → (nds.getD i Nd.none).ins.length ≤ 20 ∧ (nds.getD i Nd.none).p.length ≤ 40) := by
    have hr' := hr.symm
    unfold rightP rightB at hr'
    simp only [Bool.and_eq_true] at hr'
    exact ⟨HP.out.sg.few, ((fewB_iff _ _).1 hr'.2.1).2⟩
  clear hr
  have HGN : Hid (Nd64 nds) := HG.out.1.nd64
  have HF : Hid (nds.length ≤ 100 ∧ ∀ i, i < nds.length → (nds.getD i Nd.none).ins.length ≤ 20 ∧ (nds.getD i Nd.none).p.length ≤ 40) := HFW.out
  have hn100 := HF.out.1
  have g0 := H3.out.1.cell 0 rfl
  have g1 := H3.out.1.cell 1 rfl
  obtain ⟨H, hH⟩ : ∃ H, H = w3.heap.size := ⟨_, rfl⟩
  have HK0 : Hid (KJ w (.slice ga nds.length gc) out ⟨x0, y0, x1, y1⟩ ⟨fu, al, ro, da, rm⟩ H (.slice none 0 0) [] (nds.take 0) (w3.alloc (.cells #[.slice none 0 0, .int .i64 out] 24))) := by
    rw [hH]
    exact ⟨⟨H3.out.1.alloc _, alloc_at w3 _, H3.out.2.2.2.trans ((below_alloc w3 _).mono H3.out.2.2.2.size), World.ownsRow_nil _ _ _ _, ⟨rfl, fun j x hj => by simp at hj⟩, H3.out.1.lt⟩, (H3.out.call (below_alloc w3 _)).2.1, (H3.out.call (below_alloc w3 _)).2.2.1⟩
  go_wp2_with fail
  rw [← hH]
  clear g0 g1 H3 hH
  go_loopw [8] (fun iv wr => ∃ (i : Nat) (wv : Value) (cells : List Value), i ≤ nds.length ∧ iv = .int .i64 i ∧ KJ w (.slice ga nds.length gc) out ⟨x0, y0, x1, y1⟩ ⟨fu, al, ro, da, rm⟩ H wv cells (nds.take i) wr) (fun iv _ => nds.length - (intOf iv).toNat)
  case atStart => exact ⟨0, _, _, Nat.zero_le _, rfl, HK0.out⟩
  case round =>
    obtain ⟨i, wv, cells, hi, rfl, hr⟩ := hrel
    clear HK0
    by_cases hil : i < nds.length
    · obtain ⟨b, o, cap, ia, ic, pa, pc, hv, hbB, hcap, hcm, k0, k1, k2, s1, s2⟩ := HG.out.1.node hil
      simp only [Value.slice.injEq] at hv
      obtain ⟨rfl, _, rfl⟩ := hv
      obtain ⟨x, hx⟩ : ∃ x, x = nds.getD i Nd.none := ⟨_, rfl⟩
      have hx20 := HF.out.2 i hil
      rw [← hx] at k0 k1 k2 s1 s2 hx20
      have HX : Hid (x = nds.getD i Nd.none) := hx
      clear hx
      have HCELL : Hid (∀ W, Below w.heap.size w W → W.cell? ⟨b, o + i * 3, none⟩ = some (.int .i64 x.op) ∧ W.cell? ⟨b, o + i * 3 + 1, none⟩ = some (.slice ia x.ins.length ic) ∧ W.cell? ⟨b, o + i * 3 + 2, none⟩ = some (.slice pa x.p.length pc) ∧
          SlOf RInt 1 (· < w.heap.size) W (.slice ia x.ins.length ic) x.ins ∧ SlOf RInt 1 (· < w.heap.size) W (.slice pa x.p.length pc) x.p) := fun W hb =>
        ⟨(hb.cell (lt_of_cell k0)).trans k0, (hb.cell (lt_of_cell k1)).trans k1, (hb.cell (lt_of_cell k2)).trans k2, sl_below s1 hb, sl_below s2 hb⟩
      have HFEW : Hid (x.ins.length * 8 ≤ 140737488355328 ∧ x.p.length * 8 ≤ 140737488355328) := ⟨by omega, by omega⟩
      have hln : (nds.take i).length = i := by rw [List.length_take]; omega
      have HLN : Hid ((nds.take i).length = i) := hln
      clear hln
      have HMM : Hid (i + 1 ≤ maxLen ∧ (i + 1) * 56 ≤ 140737488355328) := by constructor <;> (try unfold maxLen) <;> omega
      obtain ⟨n2, hn2⟩ : ∃ n2, n2 = wr.heap.size := ⟨_, rfl⟩
      have HWV : Hid (∀ k, wv.ownBlock = some k → k < n2) := fun k hk => by rw [hn2]; exact (World.ownsRow.lt hr.own k hk).2
      have HWS : Hid (∃ a c, wv = .slice a i c) := by
        rcases hr.own.2 with ⟨rfl, h⟩ | ⟨g, c, _, rfl, _⟩
        · rw [HLN.out] at h
          exact ⟨none, 0, by rw [h]⟩
        · rw [HLN.out]; exact ⟨_, _, rfl⟩
      have HR : Hid (KJ w (.slice (some ⟨b, o, none⟩) nds.length gc) out ⟨x0, y0, x1, y1⟩ ⟨fu, al, ro, da, rm⟩ H wv cells (nds.take i) wr ∧ n2 ≤ wr.heap.size) := ⟨hr, by rw [hn2]; exact Nat.le_refl _⟩
      have hwn : w.heap.size + 1 ≤ n2 := by rw [hn2]; have := hr.gb.lt; omega
      have hi0 : (0 : Int) ≤ (i : Int) := by omega
      have hi1 : (i : Int) < (nds.length : Int) := by omega
      have g0 := hr.gb.cell 0 rfl
      have hcm1 : nds.length ≤ gc := hcap
      unfold maxLen at hcm
      clear k0 k1 k2 s1 s2 hr hn2
      go_wp2_with fail
      clear g0
      rename_i K hK
      refine wp_region_last (fun W => KJ w (.slice (some ⟨b, o, none⟩) nds.length gc) out ⟨x0, y0, x1, y1⟩ ⟨fu, al, ro, da, rm⟩ H wv cells (nds.take i) W ∧ n2 ≤ W.heap.size) (K7 w.heap.size H (w.heap.size + 1) n2 i b o wv (.slice (some ⟨b, o, none⟩) nds.length gc) (.slice ia x.ins.length ic) (.slice pa x.p.length pc) cells x) 28 _ rfl rfl (by kernel_rfl) (by kernel_rfl) ⟨(HR.out.1.call ((Below.refl _ _).drew)), HR.out.2⟩ ?hop ?hlast
      case hop =>
        refine Each.get (n := 28) ⟨⟨⟨⟨⟨⟨⟨⟨⟨⟨⟨⟨⟨⟨⟨⟨⟨⟨⟨⟨⟨⟨⟨⟨⟨⟨⟨⟨trivial, ?h0⟩, ?h1⟩, ?h2⟩, ?h3⟩, ?h4⟩, ?h5⟩, ?h6⟩, ?h7⟩, ?h8⟩, ?h9⟩, ?h10⟩, ?h11⟩, ?h12⟩, ?h13⟩, ?h14⟩, ?h15⟩, ?h16⟩, ?h17⟩, ?h18⟩, ?h19⟩, ?h20⟩, ?h21⟩, ?h22⟩, ?h23⟩, ?h24⟩, ?h25⟩, ?h26⟩, ?h27⟩
        case h0 =>
          refine OpIs.plain (by kernel_rfl) _ rfl rfl fun vs ev W hf hI hd => ?_
          have e0 : ev (.tmp 7) = .pointer (some ⟨H, 0, none⟩) := hf.off 7 rfl
          clear hK
          exact gives_pure (v := .pointer (some ⟨H, 0, none⟩)) hI (by simp [gives, go_sem, e0]) rfl
        case h1 =>
          refine OpIs.plain (by kernel_rfl) _ rfl rfl fun vs ev W hf hI hd => ?_
          have e0 : ev (.tmp 31) = .pointer (some ⟨H, 0, none⟩) := (hf.of 0 _ 31 rfl rfl rfl (of_decide_eq_true rfl)).trans (hd 0 (by kernel_rfl))
          have d0 := hI.1.box.cell 0 rfl
          clear hK
          exact gives_pure (v := wv) hI (by simp [gives, go_sem, e0, d0]) rfl
        case h2 =>
          refine OpIs.plain (by kernel_rfl) _ rfl rfl fun vs ev W hf hI hd => ?_
          have e0 : ev (.tmp 3) = .pointer (some ⟨w.heap.size, 0, none⟩) := hf.off 3 rfl
          clear hK
          exact gives_pure (v := .pointer (some ⟨w.heap.size, 0, none⟩)) hI (by simp [gives, go_sem, e0]) rfl
        case h3 =>
          refine OpIs.plain (by kernel_rfl) _ rfl rfl fun vs ev W hf hI hd => ?_
          have e0 : ev (.tmp 33) = .pointer (some ⟨w.heap.size, 0, none⟩) := (hf.of 2 _ 33 rfl rfl rfl (of_decide_eq_true rfl)).trans (hd 2 (by kernel_rfl))
          have d0 := hI.1.gb.cell 0 rfl
          clear hK
          exact gives_pure (v := .slice (some ⟨b, o, none⟩) nds.length gc) hI (by simp [gives, go_sem, e0, d0]) rfl
        case h4 =>
          refine OpIs.plain (by kernel_rfl) _ rfl rfl fun vs ev W hf hI hd => ?_
          have e0 : ev (.tmp 8) = .int .i64 i := hf.off 8 rfl
          clear hK
          exact gives_pure (v := .int .i64 i) hI (by simp [gives, go_sem, e0]) rfl
        case h5 =>
          refine OpIs.plain (by kernel_rfl) _ rfl rfl fun vs ev W hf hI hd => ?_
          have e0 : ev (.tmp 34) = .slice (some ⟨b, o, none⟩) nds.length gc := (hf.of 3 _ 34 rfl rfl rfl (of_decide_eq_true rfl)).trans (hd 3 (by kernel_rfl))
          have e1 : ev (.tmp 35) = .int .i64 i := (hf.of 4 _ 35 rfl rfl rfl (of_decide_eq_true rfl)).trans (hd 4 (by kernel_rfl))
          clear hK
          exact gives_pure (v := .pointer (some ⟨b, o + i * 3, none⟩)) hI (by simp [gives, go_sem, e0, e1, hi0, hi1]) rfl
        case h6 =>
          refine OpIs.plain (by kernel_rfl) _ rfl rfl fun vs ev W hf hI hd => ?_
          have e0 : ev (.tmp 36) = .pointer (some ⟨b, o + i * 3, none⟩) := (hf.of 5 _ 36 rfl rfl rfl (of_decide_eq_true rfl)).trans (hd 5 (by kernel_rfl))
          clear hK
          exact gives_pure (v := .pointer (some ⟨b, o + i * 3, none⟩)) hI (by simp [gives, go_sem, e0]) rfl
        case h7 =>
          refine OpIs.plain (by kernel_rfl) _ rfl rfl fun vs ev W hf hI hd => ?_
          have e0 : ev (.tmp 37) = .pointer (some ⟨b, o + i * 3, none⟩) := (hf.of 6 _ 37 rfl rfl rfl (of_decide_eq_true rfl)).trans (hd 6 (by kernel_rfl))
          have d0 := (HCELL.out W hI.1.below).1
          clear hK
          exact gives_pure (v := .int .i64 x.op) hI (by simp [gives, go_sem, e0, d0]) rfl
        case h8 =>
          refine OpIs.plain (by kernel_rfl) _ rfl rfl fun vs ev W hf hI hd => ?_
          clear hK
          refine gives_mono (R := fun v w' => v = .slice (some ⟨W.heap.size, 0, none⟩) 0 0 ∧ w' = W.alloc (.cells #[] 3)) (by simp [gives, go_sem]) ?_
          rintro _ _ ⟨rfl, rfl⟩
          have hb := below_alloc W (.cells #[] 3)
          exact ⟨⟨_, rfl, World.ownsRow_made W #[] 0 (Nat.le_trans hwn hI.2) (Nat.zero_le _) (by simp)⟩, ⟨hI.1.call hb, Nat.le_trans hI.2 hb.size⟩, fun j u _ h => h.below hb⟩
        case h9 =>
          refine OpIs.plain (by kernel_rfl) _ rfl rfl fun vs ev W hf hI hd => ?_
          have e0 : ev (.tmp 3) = .pointer (some ⟨w.heap.size, 0, none⟩) := hf.off 3 rfl
          clear hK
          exact gives_pure (v := .pointer (some ⟨w.heap.size, 0, none⟩)) hI (by simp [gives, go_sem, e0]) rfl
        case h10 =>
          refine OpIs.plain (by kernel_rfl) _ rfl rfl fun vs ev W hf hI hd => ?_
          have e0 : ev (.tmp 40) = .pointer (some ⟨w.heap.size, 0, none⟩) := (hf.of 9 _ 40 rfl rfl rfl (of_decide_eq_true rfl)).trans (hd 9 (by kernel_rfl))
          have d0 := hI.1.gb.cell 0 rfl
          clear hK
          exact gives_pure (v := .slice (some ⟨b, o, none⟩) nds.length gc) hI (by simp [gives, go_sem, e0, d0]) rfl
        case h11 =>
          refine OpIs.plain (by kernel_rfl) _ rfl rfl fun vs ev W hf hI hd => ?_
          have e0 : ev (.tmp 8) = .int .i64 i := hf.off 8 rfl
          clear hK
          exact gives_pure (v := .int .i64 i) hI (by simp [gives, go_sem, e0]) rfl
        case h12 =>
          refine OpIs.plain (by kernel_rfl) _ rfl rfl fun vs ev W hf hI hd => ?_
          have e0 : ev (.tmp 41) = .slice (some ⟨b, o, none⟩) nds.length gc := (hf.of 10 _ 41 rfl rfl rfl (of_decide_eq_true rfl)).trans (hd 10 (by kernel_rfl))
          have e1 : ev (.tmp 42) = .int .i64 i := (hf.of 11 _ 42 rfl rfl rfl (of_decide_eq_true rfl)).trans (hd 11 (by kernel_rfl))
          clear hK
          exact gives_pure (v := .pointer (some ⟨b, o + i * 3, none⟩)) hI (by simp [gives, go_sem, e0, e1, hi0, hi1]) rfl
        case h13 =>
          refine OpIs.plain (by kernel_rfl) _ rfl rfl fun vs ev W hf hI hd => ?_
          have e0 : ev (.tmp 43) = .pointer (some ⟨b, o + i * 3, none⟩) := (hf.of 12 _ 43 rfl rfl rfl (of_decide_eq_true rfl)).trans (hd 12 (by kernel_rfl))
          clear hK
          exact gives_pure (v := .pointer (some ⟨b, o + i * 3 + 1, none⟩)) hI (by simp [gives, go_sem, e0]) rfl
        case h14 =>
          refine OpIs.plain (by kernel_rfl) _ rfl rfl fun vs ev W hf hI hd => ?_
          have e0 : ev (.tmp 44) = .pointer (some ⟨b, o + i * 3 + 1, none⟩) := (hf.of 13 _ 44 rfl rfl rfl (of_decide_eq_true rfl)).trans (hd 13 (by kernel_rfl))
          have d0 := (HCELL.out W hI.1.below).2.1
          clear hK
          exact gives_pure (v := .slice ia x.ins.length ic) hI (by simp [gives, go_sem, e0, d0]) rfl
        case h15 =>
          refine OpIs.plain (by kernel_rfl) _ rfl rfl fun vs ev W hf hI hd => ?_
          obtain ⟨g, h1, h2⟩ := hd 8 (by kernel_rfl)
          have e1 : ev (.tmp 39) = .slice (some ⟨g, 0, none⟩) 0 0 := (hf.of 8 _ 39 rfl rfl rfl (of_decide_eq_true rfl)).trans h1
          have e2 : ev (.tmp 45) = .slice ia x.ins.length ic := (hf.of 14 _ 45 rfl rfl rfl (of_decide_eq_true rfl)).trans (hd 14 (by kernel_rfl))
          obtain ⟨i3, hi3, hz0, hz1, hz2⟩ := info_parts infoI
          have hsl := (HCELL.out W hI.1.below).2.2.2.1
          obtain ⟨a', c', W', hr, ho, hbl⟩ := copy_ints 35 i3 8 Tryd.underlying35 hi3 hz0 hz1 hz2 h2 hsl (HFEW.out.1) (Nat.le_trans hwn hI.2)
          clear hK
          refine gives_mono (R := fun v w' => v = .slice a' x.ins.length c' ∧ w' = W') (by unfold gives; simp [execOp, resolve, invoke, builtin, e1, e2, hr, Result.andThen]) ?_
          rintro _ _ ⟨rfl, rfl⟩
          exact ⟨ho, ⟨hI.1.call hbl, Nat.le_trans hI.2 hbl.size⟩, fun j u _ h => h.below hbl⟩
        case h16 =>
          refine OpIs.plain (by kernel_rfl) _ rfl rfl fun vs ev W hf hI hd => ?_
          clear hK
          refine gives_mono (R := fun v w' => v = .slice (some ⟨W.heap.size, 0, none⟩) 0 0 ∧ w' = W.alloc (.cells #[] 3)) (by simp [gives, go_sem]) ?_
          rintro _ _ ⟨rfl, rfl⟩
          have hb := below_alloc W (.cells #[] 3)
          exact ⟨⟨_, rfl, World.ownsRow_made W #[] 0 (Nat.le_trans hwn hI.2) (Nat.zero_le _) (by simp)⟩, ⟨hI.1.call hb, Nat.le_trans hI.2 hb.size⟩, fun j u _ h => h.below hb⟩
        case h17 =>
          refine OpIs.plain (by kernel_rfl) _ rfl rfl fun vs ev W hf hI hd => ?_
          have e0 : ev (.tmp 3) = .pointer (some ⟨w.heap.size, 0, none⟩) := hf.off 3 rfl
          clear hK
          exact gives_pure (v := .pointer (some ⟨w.heap.size, 0, none⟩)) hI (by simp [gives, go_sem, e0]) rfl
        case h18 =>
          refine OpIs.plain (by kernel_rfl) _ rfl rfl fun vs ev W hf hI hd => ?_
          have e0 : ev (.tmp 48) = .pointer (some ⟨w.heap.size, 0, none⟩) := (hf.of 17 _ 48 rfl rfl rfl (of_decide_eq_true rfl)).trans (hd 17 (by kernel_rfl))
          have d0 := hI.1.gb.cell 0 rfl
          clear hK
          exact gives_pure (v := .slice (some ⟨b, o, none⟩) nds.length gc) hI (by simp [gives, go_sem, e0, d0]) rfl
        case h19 =>
          refine OpIs.plain (by kernel_rfl) _ rfl rfl fun vs ev W hf hI hd => ?_
          have e0 : ev (.tmp 8) = .int .i64 i := hf.off 8 rfl
          clear hK
          exact gives_pure (v := .int .i64 i) hI (by simp [gives, go_sem, e0]) rfl
        case h20 =>
          refine OpIs.plain (by kernel_rfl) _ rfl rfl fun vs ev W hf hI hd => ?_
          have e0 : ev (.tmp 49) = .slice (some ⟨b, o, none⟩) nds.length gc := (hf.of 18 _ 49 rfl rfl rfl (of_decide_eq_true rfl)).trans (hd 18 (by kernel_rfl))
          have e1 : ev (.tmp 50) = .int .i64 i := (hf.of 19 _ 50 rfl rfl rfl (of_decide_eq_true rfl)).trans (hd 19 (by kernel_rfl))
          clear hK
          exact gives_pure (v := .pointer (some ⟨b, o + i * 3, none⟩)) hI (by simp [gives, go_sem, e0, e1, hi0, hi1]) rfl
        case h21 =>
          refine OpIs.plain (by kernel_rfl) _ rfl rfl fun vs ev W hf hI hd => ?_
          have e0 : ev (.tmp 51) = .pointer (some ⟨b, o + i * 3, none⟩) := (hf.of 20 _ 51 rfl rfl rfl (of_decide_eq_true rfl)).trans (hd 20 (by kernel_rfl))
          clear hK
          exact gives_pure (v := .pointer (some ⟨b, o + i * 3 + 2, none⟩)) hI (by simp [gives, go_sem, e0]) rfl
        case h22 =>
          refine OpIs.plain (by kernel_rfl) _ rfl rfl fun vs ev W hf hI hd => ?_
          have e0 : ev (.tmp 52) = .pointer (some ⟨b, o + i * 3 + 2, none⟩) := (hf.of 21 _ 52 rfl rfl rfl (of_decide_eq_true rfl)).trans (hd 21 (by kernel_rfl))
          have d0 := (HCELL.out W hI.1.below).2.2.1
          clear hK
          exact gives_pure (v := .slice pa x.p.length pc) hI (by simp [gives, go_sem, e0, d0]) rfl
        case h23 =>
          refine OpIs.plain (by kernel_rfl) _ rfl rfl fun vs ev W hf hI hd => ?_
          obtain ⟨g, h1, h2⟩ := hd 16 (by kernel_rfl)
          have e1 : ev (.tmp 47) = .slice (some ⟨g, 0, none⟩) 0 0 := (hf.of 16 _ 47 rfl rfl rfl (of_decide_eq_true rfl)).trans h1
          have e2 : ev (.tmp 53) = .slice pa x.p.length pc := (hf.of 22 _ 53 rfl rfl rfl (of_decide_eq_true rfl)).trans (hd 22 (by kernel_rfl))
          obtain ⟨i3, hi3, hz0, hz1, hz2⟩ := info_parts infoI
          have hsl := (HCELL.out W hI.1.below).2.2.2.2
          obtain ⟨a', c', W', hr, ho, hbl⟩ := copy_ints 35 i3 8 Tryd.underlying35 hi3 hz0 hz1 hz2 h2 hsl (HFEW.out.2) (Nat.le_trans hwn hI.2)
          clear hK
          refine gives_mono (R := fun v w' => v = .slice a' x.p.length c' ∧ w' = W') (by unfold gives; simp [execOp, resolve, invoke, builtin, e1, e2, hr, Result.andThen]) ?_
          rintro _ _ ⟨rfl, rfl⟩
          exact ⟨ho, ⟨hI.1.call hbl, Nat.le_trans hI.2 hbl.size⟩, fun j u _ h => h.below hbl⟩
        case h24 =>
          refine OpIs.plain (by kernel_rfl) _ rfl rfl fun vs ev W hf hI hd => ?_
          have h1 := hd 15 (by kernel_rfl)
          have h2 := hd 23 (by kernel_rfl)
          have e0 : ev (.tmp 38) = .int .i64 x.op := (hf.of 7 _ 38 rfl rfl rfl (of_decide_eq_true rfl)).trans (hd 7 (by kernel_rfl))
          have e1 : ev (.tmp 46) = vs 15 := hf.of 15 _ 46 rfl rfl rfl (of_decide_eq_true rfl)
          have e2 : ev (.tmp 54) = vs 23 := hf.of 23 _ 54 rfl rfl rfl (of_decide_eq_true rfl)
          obtain ⟨a1, c1, q1⟩ := own_slv h1
          obtain ⟨a2, c2, q2⟩ := own_slv h2
          rw [q1] at e1 h1
          rw [q2] at e2 h2
          clear hK
          exact gives_pure (v := .agg #[.int .i64 x.op, .slice a1 x.ins.length c1, .slice a2 x.p.length c2]) hI (by simp [gives, go_sem, e0, e1, e2]) ⟨_, _, rfl, h1, h2⟩
        case h25 =>
          refine OpIs.plain (by kernel_rfl) _ rfl rfl fun vs ev W hf hI hd => ?_
          obtain ⟨s, t, h1, h2, h3⟩ := hd 24 (by kernel_rfl)
          have e0 := (hf.of 24 _ 55 rfl rfl rfl (of_decide_eq_true rfl)).trans h1
          obtain ⟨a1, c1, rfl⟩ := own_slv h2
          obtain ⟨a2, c2, rfl⟩ := own_slv h3
          clear hK
          refine gives_mono (R := fun v w' => v = .slice (some ⟨W.heap.size, 0, none⟩) 1 1 ∧ w' = W.alloc (.cells #[.int .i64 x.op, .slice a1 x.ins.length c1, .slice a2 x.p.length c2] 44)) (by simp [gives, go_sem, e0]) ?_
          rintro _ _ ⟨rfl, rfl⟩
          have hb := below_alloc W (.cells #[.int .i64 x.op, .slice a1 x.ins.length c1, .slice a2 x.p.length c2] 44)
          exact ⟨⟨_, _, _, rfl, hI.2, alloc_at W _, h2.below hb, h3.below hb⟩, ⟨hI.1.call hb, Nat.le_trans hI.2 hb.size⟩, fun j u _ h => h.below hb⟩
        case h26 =>
          refine OpIs.plain (by kernel_rfl) _ rfl rfl fun vs ev W hf hI hd => ?_
          obtain ⟨g, s, t, h1, h2, h3, h4, h5⟩ := hd 25 (by kernel_rfl)
          have e0 : ev (.tmp 32) = wv := (hf.of 1 _ 32 rfl rfl rfl (of_decide_eq_true rfl)).trans (hd 1 (by kernel_rfl))
          have e1 := (hf.of 25 _ 56 rfl rfl rfl (of_decide_eq_true rfl)).trans h1
          obtain ⟨i3, hi3, hz0, hz1, hz2⟩ := info_parts infoN
          have hown := hI.1.own
          rw [HLN.out] at hown
          have hs1 : s.oneCell' = true := by obtain ⟨_, _, rfl⟩ := own_slv h4; rfl
          have ht1 : t.oneCell' = true := by obtain ⟨_, _, rfl⟩ := own_slv h5; rfl
          obtain ⟨a', c', W', hr, ho, hold, hg⟩ := app_keep (P := Tryd.prog) 22 44 i3 (.agg #[.int .i64 0, .slice none 0 0, .slice none 0 0]) 3 56 Tryd.underlying22 hi3 hz0 hz1 hz2 rfl (by decide) wv i cells hown ⟨g, 0, none⟩ 1 1 [.int .i64 x.op, s, t] rfl (news_three h3) (by
            intro u hu
            simp at hu
            rcases hu with rfl | rfl | rfl
            · rfl
            · exact hs1
            · exact ht1) (by decide) HMM.out.1 HMM.out.2 (Nat.le_trans hwn hI.2)
          have hold' : W'.ownsRow (w.heap.size + 1) 44 3 wv (nds.take i).length cells := by rw [HLN.out]; exact hold
          have hlt : ∀ k, wv.ownBlock = some k → k < n2 := HWV.out
          obtain ⟨wa, wc, hwv⟩ := HWS.out
          have hint : ∀ (v : Value) (n : Nat) (xs : List Value), W.ownsRow (w.heap.size + 1) 3 1 v n xs → W'.ownsRow (w.heap.size + 1) 3 1 v n xs := fun v n xs hv => hI.1.ints hg hv
          clear hK
          refine gives_mono (R := fun v w' => v = .slice (some ⟨a', 0, none⟩) (i + 1) c' ∧ w' = W') (by unfold gives; rw [hwv] at hr e0; simp [execOp, resolve, invoke, builtin, e0, e1, hr, Result.andThen]) ?_
          rintro _ _ ⟨rfl, rfl⟩
          refine ⟨⟨a', c', s, t, rfl, ho, hint _ _ _ h4, hint _ _ _ h5⟩, ⟨hI.1.app hg hold', Nat.le_trans hI.2 hg.size⟩, fun j u hj h => h.keep hint (fun g cs hg2 hgb => ?_) fun e => absurd e hj⟩
          exact (hg.block g (Array.getElem?_eq_some_iff.1 hgb).1 fun e => by have := hlt g e.symm; omega).trans hgb
        case h27 =>
          refine OpIs.plain (by kernel_rfl) _ rfl rfl fun vs ev W hf hI hd => ?_
          have e0 : ev (.tmp 7) = .pointer (some ⟨H, 0, none⟩) := hf.off 7 rfl
          clear hK
          exact gives_pure (v := .pointer (some ⟨H, 0, none⟩)) hI (by simp [gives, go_sem, e0]) rfl
      case hlast =>
        intro vs W hI hT
        obtain ⟨g, c, s, t, h1, h2, h3, h4⟩ := hT 26 (by decide)
        have h5 := hT 27 (by decide)
        refine last_plain (by kernel_rfl) rfl fun F ev hF hf => ?_
        have e1 := (hf.of 26 _ 57 rfl rfl rfl (of_decide_eq_true rfl)).trans h1
        have e2 := (hf.of 27 _ 58 rfl rfl rfl (of_decide_eq_true rfl)).trans h5
        have q0 := hI.1.box.cell 0 rfl
        have f0 := hI.1.box.frozen 0
        refine gives_mono (R := fun v w' => v = undef ∧ w' = W.setCell ⟨H, 0, none⟩ (.slice (some ⟨g, 0, none⟩) (i + 1) c)) (by simp [gives, go_sem, e1, e2, q0, f0]) ?_
        rintro _ _ ⟨rfl, rfl⟩
        subst hF
        have HKD : Hid (KJ w (.slice (some ⟨b, o, none⟩) nds.length gc) out ⟨x0, y0, x1, y1⟩ ⟨fu, al, ro, da, rm⟩ H (.slice (some ⟨g, 0, none⟩) (i + 1) c) (cells ++ [.int .i64 x.op, s, t]) (nds.take (i + 1)) (W.setCell ⟨H, 0, none⟩ (.slice (some ⟨g, 0, none⟩) (i + 1) c))) := by
          have h := hI.1.done (v := .slice (some ⟨g, 0, none⟩) (i + 1) c) (x := x) (s := s) (t := t) (by rw [HLN.out]; exact h2) h3 h4
          have e : nds.take (i + 1) = nds.take i ++ [x] := by rw [List.take_succ_eq_append_getElem hil, HX.out]; simp [hil]
          rw [e]
          exact h
        simp [fr, Act.put, h1]
        clear hT hf h1 h2 h3 h4 h5 e1 e2 q0 f0 hI
        generalize vs 0 = v0 at *
        generalize vs 1 = v1 at *
        generalize vs 2 = v2 at *
        generalize vs 3 = v3 at *
        generalize vs 4 = v4 at *
        generalize vs 5 = v5 at *
        generalize vs 6 = v6 at *
        generalize vs 7 = v7 at *
        generalize vs 8 = v8 at *
        generalize vs 9 = v9 at *
        generalize vs 10 = v10 at *
        generalize vs 11 = v11 at *
        generalize vs 12 = v12 at *
        generalize vs 13 = v13 at *
        generalize vs 14 = v14 at *
        generalize vs 15 = v15 at *
        generalize vs 16 = v16 at *
        generalize vs 17 = v17 at *
        generalize vs 18 = v18 at *
        generalize vs 19 = v19 at *
        generalize vs 20 = v20 at *
        generalize vs 21 = v21 at *
        generalize vs 22 = v22 at *
        generalize vs 23 = v23 at *
        generalize vs 24 = v24 at *
        generalize vs 25 = v25 at *
        refine hK _ _ ?_
        clear hK
        go_wp2_with fail
        go_roundw
        case rel => exact ⟨i + 1, _, _, by omega, by go_num, HKD.out⟩
        case measure => simp [intOf]; omega
    · rename World => wC
      have ei : i = nds.length := by omega
      subst ei
      rw [List.take_length] at hr
      have HB0 : Hid (BG w wC (.slice ga nds.length gc) wv out H wC) := ⟨hr.gb, hr.box, Below.refl _ _, hr.gb.lt, hr.box.lt⟩
      have HGR : Hid (∀ W, BG w wC (.slice ga nds.length gc) wv out H W → Below w.heap.size w W ∧ Gr w.heap.size W (.slice ga nds.length gc) nds ∧ w.heap.size ≤ W.heap.size ∧ Gr wC.heap.size W wv nds ∧ wC.heap.size ≤ W.heap.size) := fun W hW => by
        have hb := hr.below.trans (hW.2.2.1.mono hr.below.size)
        exact ⟨hb, HG.out.1.below hb (Nat.le_refl _), hb.size, (hr.inn.gr hr.own HGN.out).below hW.2.2.1 (Nat.le_refl _), hW.2.2.1.size⟩
      have g0 := hr.gb.cell 0 rfl
      have g1 := hr.gb.cell 1 rfl
      obtain ⟨r0, r1, r2, r3⟩ := box4 hr.rb.box
      have m0 := hr.cb.box.cell 0 rfl
      have m1 := hr.cb.box.cell 1 rfl
      have m2 := hr.cb.box.cell 2 rfl
      have m3 := hr.cb.box.cell 3 rfl
      have m4 := hr.cb.box.cell 4 rfl
      clear hr
      go_wp2_with fail
      clear g0 g1 r0 r1 r2 r3 m0 m1 m2 m3 m4
      have hmk := make_c w.heap.size _ nds out ⟨x0, y0, x1, y1⟩ ⟨fu, al, ro, da, rm⟩ wC HP.out (HGR.out wC HB0.out).2.1 (HGR.out wC HB0.out).2.2.1
      have hshort := plS_short (c := ⟨fu, al, ro, da, rm⟩) HP.out
      obtain ⟨S, hS⟩ : ∃ s, s = plS nds out ⟨fu, al, ro, da, rm⟩ ⟨x0, y0, x1, y1⟩ := ⟨_, rfl⟩
      obtain ⟨SR, hSR⟩ : ∃ s, s = srcO nds out ⟨fu, al, ro, da, rm⟩ ⟨x0, y0, x1, y1⟩ := ⟨_, rfl⟩
      rw [← hS] at hshort hmk
      rw [← hSR] at hmk
      clear hS hSR
      refine hmk.mono ?_; rintro e w6 ⟨pl, pv, rfl, hpl, hpr, hb6⟩
      clear hmk
      obtain ⟨pa, pc, hpv⟩ := hpr.form
      obtain ⟨n, hn⟩ : ∃ n, n = pl.length := ⟨_, rfl⟩
      rw [← hn] at hpv
      subst hpv
      obtain ⟨sn, hsn⟩ : ∃ n, n = S.sl.length := ⟨_, rfl⟩
      obtain ⟨pk, hpk⟩ : ∃ n, n = S.pk := ⟨_, rfl⟩
      obtain ⟨s0, s1, s2, s3⟩ := SR
      obtain ⟨q, hq⟩ : ∃ q, q = w6.heap.size := ⟨_, rfl⟩
      have hn1 : n ≤ 9223372036854775807 := by
        have h1 := hpr.1
        rcases h1.2 with ⟨h2, h0⟩ | ⟨g', cap, cur, h2, _, _, hle, hcm, _⟩
        · omega
        · unfold maxLen at hcm; omega
      rw [← hsn, ← hpk]
      dsimp only
      have HZ0 : Hid (KZ w wC (.slice ga nds.length gc) wv out H q n (.slice pa n pc) s0 s1 s2 s3 (sn : Int) pk (w6.alloc (.cells #[.slice pa n pc, .int .i64 s0, .int .i64 s1, .int .i64 s2, .int .i64 s3, .int .i64 sn, .int .i64 pk] 33))) := by
        have hbn := below_new w6 (.cells #[.slice pa n pc, .int .i64 s0, .int .i64 s1, .int .i64 s2, .int .i64 s3, .int .i64 sn, .int .i64 pk] 33)
        refine ⟨(HB0.out.call hb6).call hbn, ?_, pl, hn.symm, hpr.pz.call hbn, fun x hx => hshort x.2.2 ?_⟩
        · rw [hq]
          exact TB.new w6 _ _
        · rw [← hpl]
          exact List.mem_map.2 ⟨x, hx, rfl⟩
      clear hpl hpr hb6 hn hsn hpk hshort HB0
      have qz := HZ0.out.2.1.box.cell 0 rfl
      rw [hq] at qz
      go_wp2_with fail
      rw [← hq]
      clear qz hq
      generalize w6.alloc (.cells #[.slice pa n pc, .int .i64 s0, .int .i64 s1, .int .i64 s2, .int .i64 s3, .int .i64 sn, .int .i64 pk] 33) = W7 at *
      clear w6
      go_loopw [10, 11] (fun iv _ W => ∃ i : Nat, i ≤ n ∧ iv = .int .i64 i ∧ KZ w wC (.slice ga nds.length gc) wv out H q n (.slice pa n pc) s0 s1 s2 s3 (sn : Int) pk W) (fun iv _ _ => n - (intOf iv).toNat)
      case atStart => exact ⟨0, Nat.zero_le _, rfl, HZ0.out⟩
      case round =>
        obtain ⟨i, hi3, rfl, hbg, htq, pl2, hpn, hpz, hsh⟩ := hrel
        clear HZ0
        have q0 := htq.box.cell 0 rfl
        by_cases hil : i < n
        · obtain ⟨x, hx⟩ : ∃ x, pl2[i]? = some x := ⟨_, List.getElem?_eq_getElem (by omega)⟩
          obtain ⟨L, hL⟩ : ∃ L, L = x.2.2.nodes.length := ⟨_, rfl⟩
          have hL1 : L ≤ 1000 := by rw [hL]; exact hsh x (List.mem_of_getElem? hx)
          have HX : Hid (pl2[i]? = some x ∧ L = x.2.2.nodes.length ∧ pl2.length = n ∧ ∀ x ∈ pl2, x.2.2.nodes.length ≤ 1000) := ⟨hx, hL, hpn, hsh⟩
          have H7 : Hid (BG w wC (.slice ga nds.length gc) wv out H wr ∧ TB wr q [.slice pa n pc, .int .i64 s0, .int .i64 s1, .int .i64 s2, .int .i64 s3, .int .i64 sn, .int .i64 pk] 33 ∧ PZ wC.heap.size pl2 (.slice pa n pc) wr) := ⟨hbg, htq, hpz⟩
          have hi0 : (0 : Int) ≤ (i : Int) := by omega
          have hi1 : (i : Int) < (n : Int) := by omega
          clear hbg htq hpz hsh hx hL hpn
          go_wp2_with fail
          clear q0
          go_loopw [11] (fun kv W => ∃ k : Nat, k ≤ L ∧ kv = .int .i64 k ∧ BG w wC (.slice ga nds.length gc) wv out H W ∧ TB W q [.slice pa n pc, .int .i64 s0, .int .i64 s1, .int .i64 s2, .int .i64 s3, .int .i64 sn, .int .i64 pk] 33 ∧ PZ wC.heap.size pl2 (.slice pa n pc) W) (fun kv _ => L - (intOf kv).toNat)
          case atStart => exact ⟨0, Nat.zero_le _, rfl, H7.out⟩
          case round =>
            obtain ⟨k, hk3, rfl, hbg, htq, hpz⟩ := hrel
            rename World => wk
            clear H7
            obtain ⟨g, na, nc, x', rfl, hgB, hfz, hx', c0, ⟨xs, hxl, ho⟩, hcs⟩ := hpz.at HX.out.2.2.1 hil
            obtain rfl : x = x' := Option.some.inj (HX.out.1.symm.trans hx')
            rw [← HX.out.2.1] at c0 ho hxl
            have q0 := htq.box.cell 0 rfl
            by_cases hkl : k < L
            · obtain ⟨gr, rfl, hrB, c1, f1⟩ := row_spot ho (j := k) (by omega)
              have hne : q ≠ gr := fun e => own_apartM ho htq (by decide) (by rw [e]; rfl)
              have HE : Hid (BG w wC (.slice ga nds.length gc) wv out H (wk.setCell ⟨gr, k, none⟩ (.int .i64 (-7))) ∧ TB (wk.setCell ⟨gr, k, none⟩ (.int .i64 (-7))) q [.slice (some ⟨g, 0, none⟩) n pc, .int .i64 s0, .int .i64 s1, .int .i64 s2, .int .i64 s3, .int .i64 sn, .int .i64 pk] 33 ∧ PZ wC.heap.size pl2 (.slice (some ⟨g, 0, none⟩) n pc) (wk.setCell ⟨gr, k, none⟩ (.int .i64 (-7)))) := ⟨hbg.set hrB _, htq.set hne _, hpz.store ho hxl (-7)⟩
              have hk0 : (0 : Int) ≤ (k : Int) := by omega
              have hk1 : (k : Int) < (L : Int) := by omega
              clear hbg htq hpz ho hxl hcs hx' hfz
              go_wp2_with fail
              go_roundw
              case rel => exact ⟨k + 1, by omega, by go_num, HE.out⟩
              case measure => simp [intOf]; omega
            · have ekl : k = L := by omega
              obtain ⟨sv1, sv2, ⟨ns, rs, ⟨b0, b1, b2, b3⟩, so, lo⟩⟩ := x
              have p2 : wk.cell? ⟨g, i * 8 + 2, none⟩ = some (.int .i64 b0) := hcs 2 _ (by omega) rfl
              have p3 : wk.cell? ⟨g, i * 8 + 3, none⟩ = some (.int .i64 b1) := hcs 3 _ (by omega) rfl
              have p4 : wk.cell? ⟨g, i * 8 + 4, none⟩ = some (.int .i64 b2) := hcs 4 _ (by omega) rfl
              have p5 : wk.cell? ⟨g, i * 8 + 5, none⟩ = some (.int .i64 b3) := hcs 5 _ (by omega) rfl
              have f2 := hfz (i * 8 + 2)
              have f3 := hfz (i * 8 + 3)
              have f4 := hfz (i * 8 + 4)
              have f5 := hfz (i * 8 + 5)
              have hne : q ≠ g := fun e => own_apartM hpz.1 htq (by decide) (by rw [e]; rfl)
              have HE : Hid (KZ w wC (.slice ga nds.length gc) wv out H q n (.slice (some ⟨g, 0, none⟩) n pc) s0 s1 s2 s3 (sn : Int) pk ((((wk.setCell ⟨g, i * 8 + 2, none⟩ (.int .i64 0)).setCell ⟨g, i * 8 + 3, none⟩ (.int .i64 0)).setCell ⟨g, i * 8 + 4, none⟩ (.int .i64 0)).setCell ⟨g, i * 8 + 5, none⟩ (.int .i64 0))) := by
                refine ⟨(((hbg.set hgB _).set hgB _).set hgB _).set hgB _, (((htq.set hne _).set hne _).set hne _).set hne _, pl2.set i (sv1, sv2, ⟨ns, rs, ⟨0, 0, 0, 0⟩, so, lo⟩), by rw [List.length_set]; exact HX.out.2.2.1, hpz.box (i := i) (s := sv1) (t := sv2) (y := ⟨ns, rs, ⟨b0, b1, b2, b3⟩, so, lo⟩) HX.out.1 ⟨0, 0, 0, 0⟩, fun z hz => ?_⟩
                rcases List.mem_or_eq_of_mem_set hz with h2 | rfl
                · exact HX.out.2.2.2 z h2
                · exact (show ns.length ≤ 1000 from HX.out.2.2.2 (sv1, sv2, ⟨ns, rs, ⟨b0, b1, b2, b3⟩, so, lo⟩) (List.mem_of_getElem? HX.out.1))
              have hk0 : (0 : Int) ≤ (k : Int) := by omega
              clear hbg htq hpz ho hxl hcs hx' hfz
              go_wp2_with fail
              go_roundw
              case rel => exact ⟨i + 1, by omega, by go_num, HE.out⟩
              case measure => simp [intOf]; omega
        · have ei : i = n := by omega
          rename World => w8
          have H8 : Hid (BG w wC (.slice ga nds.length gc) wv out H w8) := hbg
          have g0 := hbg.1.cell 0 rfl
          have g1 := hbg.1.cell 1 rfl
          have h0 := hbg.2.1.cell 0 rfl
          have h1 := hbg.2.1.cell 1 rfl
          clear hbg htq hpz hsh hpn
          go_wp2_with fail
          refine (same_c _ _ _ _ nds out w8 (by omega) (HGR.out w8 H8.out).2.1 (HGR.out w8 H8.out).2.2.1 (HGR.out w8 H8.out).2.2.2.1 (HGR.out w8 H8.out).2.2.2.2).mono ?_; rintro e w9 ⟨rfl, hb9⟩
          have HE : Hid (Below w.heap.size w w9) := (HGR.out w8 H8.out).1.trans (hb9.mono (HGR.out w8 H8.out).2.2.1)
          clear g0 g1 h0 h1 hb9
          go_wp2_with fail
          go_ret
          exact ⟨rfl, HE.out⟩
end Go.Proofs.YthaniopkpmhalaaDoor
/-! ### the law -/
namespace Go.Proofs.YthaniopkpmhalaaDoor
open Go.RowKit Go.Bx Go.Od Go.Hp Go.ChangeShapes Go.WideShapes Go.ChangeAt
set_option linter.unusedVariables false
section
variable {H : Type} {enc : TypeId × Value → H} {W : World} {base : Nat}
theorem planKeeps.planKeeps_law (W : World) (ht : Tabs W) {v0 v1 v2 : Value} {d0 d1 d2 : DataW H} {p0 p1 p2 : List MemPlace}
    (h0 : DataW.Trod enc Tryd.prog W 0 (fun _ => true) true 24 v0 d0 p0) (h1 : DataW.Trod enc Tryd.prog W 0 (fun _ => true) true 26 v1 d1 p1) (h2 : DataW.Trod enc Tryd.prog W 0 (fun _ => true) true 28 v2 d2 p2)
    (k0 : Value.okWide Tryd.prog W .any base 24 v0) (k1 : Value.okWide Tryd.prog W .any base 26 v1) (k2 : Value.okWide Tryd.prog W .any base 28 v2) :
    Calls Tryd.prog 6 #[v0, v1, v2] W (TPost W) := by
  obtain ⟨nv, out, nds, rfl, hg, hout⟩ := graph_arg h0 k0
  obtain ⟨r, rfl⟩ := rect_arg h1 k1
  obtain ⟨c, rfl⟩ := conf_arg h2 k2
  exact planKeeps_walk nv nds out r c W ht hg
end
end Go.Proofs.YthaniopkpmhalaaDoor
