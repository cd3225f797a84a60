/- 'FuseKeeps' of whatever graph. (Printed by mk_fkeeps.py.) -/
import Derived.Test.YtijkcpkljmpplaaDoorKp
import Derived.Test.YtijkcpkljmpplaaDoorAw
namespace Go.Proofs.YtijkcpkljmpplaaDoor
open Go.RowKit Go.Bx Go.Od Go.Hp
attribute [local go_sem ↓] Go.wp_at_zero Go.wp_at_succ
set_option linter.unusedVariables false

theorem own_slv {w : World} {B : Nat} {v : Value} {xs : List Int} (h : OwnP w B v xs) : ∃ a c, v = .slice a xs.length c := by
  rcases h.form with ⟨rfl, rfl⟩ | ⟨g, cap, rfl, _⟩
  · exact ⟨none, 0, rfl⟩
  · exact ⟨_, cap, rfl⟩
theorem news_three {W : World} {g : Nat} {x y z : Value} {t : TypeId} (h : W.heap[g]? = some (.cells #[x, y, z] t (0, 0))) : ∀ j u, [x, y, z][j]? = some u → W.cell? ((⟨g, 0, none⟩ : Addr).add j) = some u := by
  intro j u hu
  have hb : Box W g [x, y, z] := ⟨t, h⟩
  rw [Go.WideShapes.add_plain, Nat.zero_add]
  exact hb.cell j hu
/-- 'append([]int{}, xs...)' -/
theorem copy_ints {w : World} {B g C : Nat} (t : TypeId) (i : TypeInfo) (bytes : Nat) (ht : Tryd.prog.underlying t = some (.slice 3)) (hi : Tryd.prog.info? 3 = some i) (hz : i.zero = some (.int .i64 0)) (hsize : i.size = 1) (hby : i.bytes = bytes)
    (hv : w.ownsRow B 3 1 (.slice (some ⟨g, 0, none⟩) 0 0) 0 []) {a : Option Addr} {xs : List Int} {c : Nat} (hs : SlOf RInt 1 (· < C) w (.slice a xs.length c) xs) (hl : xs.length * bytes ≤ 140737488355328) (hB : B ≤ w.heap.size) :
    ∃ a' c' w', (Builtin.append_ #[t, t] t #[.slice (some ⟨g, 0, none⟩) 0 0, .slice a xs.length c]).run Tryd.prog w = .ok (.slice a' xs.length c') w' ∧ OwnP w' B (.slice a' xs.length c') xs ∧ Below w.heap.size w w' := by
  obtain ⟨a2, cap, hv2, hc, hm, _, hcell⟩ := hs.ints
  simp only [Value.slice.injEq] at hv2
  obtain ⟨rfl, _, rfl⟩ := hv2
  exact app_empty (P := Tryd.prog) t 3 i (.int .i64 0) bytes ht hi hz hsize hby rfl hv a xs.length c (xs.map (Value.int .i64)) (by simp) (fun b hbe j u hu => by
      have hj : j < xs.length := by have := (List.getElem?_eq_some_iff.1 hu).1; simpa using this
      obtain ⟨b', o, h1, _, h2⟩ := hcell j hj
      rw [hbe] at h1
      cases h1
      rw [Go.WideShapes.add_plain, h2 j hj, ← hu]
      simp [hj]) (fun u hu => by obtain ⟨x, _, rfl⟩ := List.mem_map.1 hu; rfl) (fun hn => by
      by_cases h : xs.length = 0
      · exact h
      · obtain ⟨b', o, h1, _⟩ := hcell 0 (by omega)
        rw [hn] at h1; cases h1) (Nat.le_trans hc hm) hl hB
/-- all that was there when the copy was done is as it was -/
def BI (w wC : World) (nv wv : Value) (out : Int) (H : Nat) (W : World) : Prop := Box W w.heap.size [nv, .int .i64 out] ∧ Box W H [wv, .int .i64 out] ∧ Below wC.heap.size wC W ∧ w.heap.size < wC.heap.size ∧ H < wC.heap.size
theorem BI.call {w wC W W' : World} {nv wv : Value} {out : Int} {H : Nat} (h : BI w wC nv wv out H W) (hb : Below W.heap.size W W') : BI w wC nv wv out H W' := ⟨h.1.call hb, h.2.1.call hb, h.2.2.1.trans (hb.mono h.2.2.1.size), h.2.2.2⟩
theorem BI.set {w wC W : World} {nv wv : Value} {out : Int} {H : Nat} (h : BI w wC nv wv out H W) {p : Addr} (hp : wC.heap.size ≤ p.block) (v : Value) : BI w wC nv wv out H (W.setCell p v) := ⟨h.1.set (by have := h.2.2.2.1; omega) _, h.2.1.set (by have := h.2.2.2.2; omega) _, h.2.2.1.setCell hp _, h.2.2.2⟩
/-- a number of a row of one's own is there, and may be written -/
theorem row_spot {w : World} {B : Nat} {a : Option Addr} {n c : Nat} {xs : List Int} (h : OwnP w B (.slice a n c) xs) {j : Nat} (hj : j < xs.length) : ∃ g, a = some ⟨g, 0, none⟩ ∧ B ≤ g ∧ w.cell? ⟨g, j, none⟩ = some (.int .i64 (xs.getD j 0)) ∧ w.frozen? ⟨g, j, none⟩ = false := by
  rcases h.form with ⟨_, h'⟩ | ⟨g, cap, h1, hB, _, _, _, _, hf, hc⟩
  · rw [h'] at hj; simp at hj
  · simp only [Value.slice.injEq] at h1
    obtain ⟨rfl, _, _⟩ := h1
    exact ⟨g, rfl, hB, hc j hj, hf j⟩
/-- groups while they are written over -/
def GZ (B : Nat) (G : List (List Nat)) (ov : Value) (vs : List Value) (W : World) : Prop :=
  W.ownsRow B 30 1 ov G.length vs ∧ ∀ r, r < G.length → ∃ xs : List Int, xs.length = (G.getD r []).length ∧ OwnP W B (vs.getD r undef) xs
theorem GU.gz {B : Nat} {G : List (List Nat)} {ov : Value} {vs : List Value} {W : World} (h : GU B G ov vs W) : GZ B G ov vs W := ⟨h.own, fun r hr => ⟨_, ofN_len _, h.inner r hr⟩⟩
theorem row_set_ne {w : World} {B s n : Nat} {e : TypeId} {v : Value} {xs : List Value} (h : w.ownsRow B e s v n xs) {p : Addr} (hp : v.ownBlock ≠ some p.block) (u : Value) : (w.setCell p u).ownsRow B e s v n xs := by
  refine ⟨h.1, ?_⟩
  rcases h.2 with hn | ⟨g, cap, cur, rfl, hB, hb, rest⟩
  · exact .inl hn
  · refine .inr ⟨g, cap, cur, rfl, hB, ?_, rest⟩
    rw [Below.heap_setCell _ _ _ _ fun e => hp (by rw [← e]; rfl)]
    exact hb
theorem GZ.row {B : Nat} {G : List (List Nat)} {a : Option Addr} {n c : Nat} {vs : List Value} {W : World} (h : GZ B G (.slice a n c) vs W) (hn : n = G.length) {r : Nat} (hr : r < n) : ∃ g x y, a = some ⟨g, 0, none⟩ ∧ W.cell? ⟨g, r, none⟩ = some (.slice x (G.getD r []).length y) ∧ vs.getD r undef = .slice x (G.getD r []).length y ∧ ∃ xs : List Int, xs.length = (G.getD r []).length ∧ OwnP W B (.slice x (G.getD r []).length y) xs := by
  subst hn
  obtain ⟨xs, hx, ho⟩ := h.2 r hr
  obtain ⟨x, y, hv⟩ := own_slv ho
  rw [hx] at hv
  rcases h.1.2 with ⟨_, h0⟩ | ⟨g, cap, cur, he, _⟩
  · omega
  · cases he
    refine ⟨g, x, y, rfl, ?_, hv, xs, hx, hv ▸ ho⟩
    have h2 := World.ownsRow.cellAt h.1 r (by omega)
    rw [h2, ← hv]
    have := h.1.1
    have hlr : r < vs.length := by omega
    simp [hlr]
theorem GZ.store {B : Nat} {G : List (List Nat)} {ov : Value} {vs : List Value} {W : World} (h : GZ B G ov vs W) {i g k n c : Nat} {xs : List Int} (hi : OwnP W B (.slice (some ⟨g, 0, none⟩) n c) xs) (x : Int) : GZ B G ov vs (W.setCell ⟨g, k, none⟩ (.int .i64 x)) := by
  refine ⟨row_set_ne h.1 (p := ⟨g, k, none⟩) (rows_apart hi h.1 (by decide) rfl) _, fun r hr => ?_⟩
  obtain ⟨ys, hy, ho⟩ := h.2 r hr
  by_cases e : (vs.getD r undef).ownBlock = some g
  · obtain ⟨a, c', hv⟩ := own_slv ho
    rw [hv] at ho e ⊢
    rcases ho.form with ⟨ha, _⟩ | ⟨g', cap, ha, _⟩
    · rw [ha] at e; cases e
    · rw [ha] at e ho ⊢
      simp [Value.ownBlock] at e
      subst e
      exact ⟨ys.set k x, by rw [List.length_set]; exact hy, OwnP.stored rfl ho k x⟩
  · exact ⟨ys, hy, row_set_ne ho (p := ⟨g, k, none⟩) e _⟩
set_option maxRecDepth 4000 in
set_option maxHeartbeats 6400000 in
theorem fuseKeeps_walk (nv : Value) (nds : List Nd) (out : Int) (w : World) (ht : Tabs w) (hg : Gr w.heap.size w nv nds) :
    Calls Tryd.prog 6 #[.agg #[nv, .int .i64 out]] w (TPost w) := by
  obtain ⟨ga, gc, rfl⟩ := hg.isSl
  have hgl := hg.len_le
  have X := Box.new w [.slice ga nds.length gc, .int .i64 out] 24
  have hb1 := below_alloc w (.cells #[.slice ga nds.length gc, .int .i64 out] 24)
  have HG : Hid (Gr w.heap.size w (.slice ga nds.length gc) nds ∧ Nd64 nds ∧ Tabs w) := ⟨hg, hg.nd64, ht⟩
  clear hg ht
  go_enter Tryd.func6, Tryd.ntmps6
  go_wp2_with fail
  obtain ⟨W1, hW1⟩ : ∃ W, W = w.alloc (.cells #[.slice ga nds.length gc, .int .i64 out] 24) := ⟨_, rfl⟩
  rw [← hW1] at X hb1 ⊢
  clear hW1
  refine (awake16_c W1).mono ?_; rintro e w1 ⟨rfl, hb2⟩
  have H1 : Hid (Box w1 w.heap.size [.slice ga nds.length gc, .int .i64 out] ∧ Below w.heap.size w w1) := ⟨X.call hb2, hb1.trans (hb2.mono hb1.size)⟩
  clear X hb1 hb2
  have g0 := H1.out.1.cell 0 rfl
  have g1 := H1.out.1.cell 1 rfl
  go_wp2_with fail
  refine (right16_c w.heap.size _ nds out w1 (HG.out.2.2.below H1.out.2) (HG.out.1.below H1.out.2 (Nat.le_refl _)) H1.out.2.size).mono ?_; rintro e w2 ⟨rfl, hb3⟩
  have H2 : Hid (Box w2 w.heap.size [.slice ga nds.length gc, .int .i64 out] ∧ Below w.heap.size w w2) := ⟨H1.out.1.call hb3, H1.out.2.trans (hb3.mono H1.out.2.size)⟩
  clear g0 g1 hb3 H1
  have g0 := H2.out.1.cell 0 rfl
  have g1 := H2.out.1.cell 1 rfl
  obtain ⟨r, hr⟩ : ∃ r, r = rightB nds out := ⟨_, rfl⟩
  rw [← hr]
  cases r with
  | false =>
    clear hr
    go_wp2_with fail
    refine (awake16_c w2).mono ?_; rintro e w4 ⟨rfl, hb4⟩
    have HE : Hid (Below w.heap.size w w4) := H2.out.2.trans (hb4.mono H2.out.2.size)
    clear g0 g1 hb4
    go_wp2_with fail
    go_ret
    exact ⟨rfl, HE.out⟩
  | true =>
  have HGD : Hid (Good nds out) := good_of hr.symm
  have HF : Hid (nds.length ≤ 100 ∧ (∀ i, i < nds.length → (nds.getD i Nd.none).ins.length ≤ 1000) ∧ ∀ i, i < nds.length → (nds.getD i Nd.none).ins.length ≤ 20 ∧ (nds.getD i Nd.none).p.length ≤ 40) := by
    have hr' := hr.symm
    unfold rightB at hr'
    rw [Bool.and_eq_true] at hr'
    exact ⟨HGD.out.few, HGD.out.short, ((fewB_iff _ _).1 hr'.1).2⟩
  have hn100 := HF.out.1
  clear hr
  obtain ⟨H, hH⟩ : ∃ H, H = w2.heap.size := ⟨_, rfl⟩
  have HK0 : Hid (KI w (.slice ga nds.length gc) out H (.slice none 0 0) [] (nds.take 0) (w2.alloc (.cells #[.slice none 0 0, .int .i64 out] 24))) := by
    rw [hH]
    exact ⟨H2.out.1.alloc _, alloc_at w2 _, H2.out.2.trans ((below_alloc w2 _).mono H2.out.2.size), World.ownsRow_nil _ _ _ _, ⟨rfl, fun j x hj => by simp at hj⟩, H2.out.1.lt⟩
  go_wp2_with fail
  rw [← hH]
  clear g0 g1 H2 hH
  go_loopw [4] (fun iv wr => ∃ (i : Nat) (wv : Value) (cells : List Value), i ≤ nds.length ∧ iv = .int .i64 i ∧ KI w (.slice ga nds.length gc) out H wv cells (nds.take i) wr) (fun iv _ => nds.length - (intOf iv).toNat)
  case atStart => exact ⟨0, _, _, Nat.zero_le _, rfl, HK0.out⟩
  case round =>
    obtain ⟨i, wv, cells, hi, rfl, hr⟩ := hrel
    clear HK0
    by_cases hil : i < nds.length
    · obtain ⟨b, o, cap, ia, ic, pa, pc, hv, hbB, hcap, hcm, k0, k1, k2, s1, s2⟩ := HG.out.1.node hil
      simp only [Value.slice.injEq] at hv
      obtain ⟨rfl, _, rfl⟩ := hv
      obtain ⟨x, hx⟩ : ∃ x, x = nds.getD i Nd.none := ⟨_, rfl⟩
      have hx20 := HF.out.2.2 i hil
      rw [← hx] at k0 k1 k2 s1 s2 hx20
      have HX : Hid (x = nds.getD i Nd.none) := hx
      clear hx
      have HCELL : Hid (∀ W, Below w.heap.size w W → W.cell? ⟨b, o + i * 3, none⟩ = some (.int .i64 x.op) ∧ W.cell? ⟨b, o + i * 3 + 1, none⟩ = some (.slice ia x.ins.length ic) ∧ W.cell? ⟨b, o + i * 3 + 2, none⟩ = some (.slice pa x.p.length pc) ∧
          SlOf RInt 1 (· < w.heap.size) W (.slice ia x.ins.length ic) x.ins ∧ SlOf RInt 1 (· < w.heap.size) W (.slice pa x.p.length pc) x.p) := fun W hb =>
        ⟨(hb.cell (lt_of_cell k0)).trans k0, (hb.cell (lt_of_cell k1)).trans k1, (hb.cell (lt_of_cell k2)).trans k2, sl_below s1 hb, sl_below s2 hb⟩
      have HFEW : Hid (x.ins.length * 8 ≤ 140737488355328 ∧ x.p.length * 8 ≤ 140737488355328) := ⟨by omega, by omega⟩
      have hln : (nds.take i).length = i := by rw [List.length_take]; omega
      have HLN : Hid ((nds.take i).length = i) := hln
      clear hln
      have HMM : Hid (i + 1 ≤ maxLen ∧ (i + 1) * 56 ≤ 140737488355328) := by constructor <;> (try unfold maxLen) <;> omega
      obtain ⟨n2, hn2⟩ : ∃ n2, n2 = wr.heap.size := ⟨_, rfl⟩
      have HWV : Hid (∀ k, wv.ownBlock = some k → k < n2) := fun k hk => by rw [hn2]; exact (World.ownsRow.lt hr.own k hk).2
      have HWS : Hid (∃ a c, wv = .slice a i c) := by
        rcases hr.own.2 with ⟨rfl, h⟩ | ⟨g, c, _, rfl, _⟩
        · rw [HLN.out] at h
          exact ⟨none, 0, by rw [h]⟩
        · rw [HLN.out]; exact ⟨_, _, rfl⟩
      have HR : Hid (KI w (.slice (some ⟨b, o, none⟩) nds.length gc) out H wv cells (nds.take i) wr ∧ n2 ≤ wr.heap.size) := ⟨hr, by rw [hn2]; exact Nat.le_refl _⟩
      have hwn : w.heap.size + 1 ≤ n2 := by rw [hn2]; have := hr.gb.lt; omega
      have hi0 : (0 : Int) ≤ (i : Int) := by omega
      have hi1 : (i : Int) < (nds.length : Int) := by omega
      have g0 := hr.gb.cell 0 rfl
      have hcm1 : nds.length ≤ gc := hcap
      unfold maxLen at hcm
      clear k0 k1 k2 s1 s2 hr hn2
      go_wp2_with fail
      clear g0
      rename_i K hK
      refine wp_region_last (fun W => KI w (.slice (some ⟨b, o, none⟩) nds.length gc) out H wv cells (nds.take i) W ∧ n2 ≤ W.heap.size) (K7 w.heap.size H (w.heap.size + 1) n2 i b o wv (.slice (some ⟨b, o, none⟩) nds.length gc) (.slice ia x.ins.length ic) (.slice pa x.p.length pc) cells x) 28 _ rfl rfl (by kernel_rfl) (by kernel_rfl) ⟨(HR.out.1.call ((Below.refl _ _).drew)), HR.out.2⟩ ?hop ?hlast
      case hop =>
        refine Each.get (n := 28) ⟨⟨⟨⟨⟨⟨⟨⟨⟨⟨⟨⟨⟨⟨⟨⟨⟨⟨⟨⟨⟨⟨⟨⟨⟨⟨⟨⟨trivial, ?h0⟩, ?h1⟩, ?h2⟩, ?h3⟩, ?h4⟩, ?h5⟩, ?h6⟩, ?h7⟩, ?h8⟩, ?h9⟩, ?h10⟩, ?h11⟩, ?h12⟩, ?h13⟩, ?h14⟩, ?h15⟩, ?h16⟩, ?h17⟩, ?h18⟩, ?h19⟩, ?h20⟩, ?h21⟩, ?h22⟩, ?h23⟩, ?h24⟩, ?h25⟩, ?h26⟩, ?h27⟩
        case h0 =>
          refine OpIs.plain (by kernel_rfl) _ rfl rfl fun vs ev W hf hI hd => ?_
          have e0 : ev (.tmp 3) = .pointer (some ⟨H, 0, none⟩) := hf.off 3 rfl
          clear hK
          exact gives_pure (v := .pointer (some ⟨H, 0, none⟩)) hI (by simp [gives, go_sem, e0]) rfl
        case h1 =>
          refine OpIs.plain (by kernel_rfl) _ rfl rfl fun vs ev W hf hI hd => ?_
          have e0 : ev (.tmp 26) = .pointer (some ⟨H, 0, none⟩) := (hf.of 0 _ 26 rfl rfl rfl (of_decide_eq_true rfl)).trans (hd 0 (by kernel_rfl))
          have d0 := hI.1.box.cell 0 rfl
          clear hK
          exact gives_pure (v := wv) hI (by simp [gives, go_sem, e0, d0]) rfl
        case h2 =>
          refine OpIs.plain (by kernel_rfl) _ rfl rfl fun vs ev W hf hI hd => ?_
          have e0 : ev (.tmp 1) = .pointer (some ⟨w.heap.size, 0, none⟩) := hf.off 1 rfl
          clear hK
          exact gives_pure (v := .pointer (some ⟨w.heap.size, 0, none⟩)) hI (by simp [gives, go_sem, e0]) rfl
        case h3 =>
          refine OpIs.plain (by kernel_rfl) _ rfl rfl fun vs ev W hf hI hd => ?_
          have e0 : ev (.tmp 28) = .pointer (some ⟨w.heap.size, 0, none⟩) := (hf.of 2 _ 28 rfl rfl rfl (of_decide_eq_true rfl)).trans (hd 2 (by kernel_rfl))
          have d0 := hI.1.gb.cell 0 rfl
          clear hK
          exact gives_pure (v := .slice (some ⟨b, o, none⟩) nds.length gc) hI (by simp [gives, go_sem, e0, d0]) rfl
        case h4 =>
          refine OpIs.plain (by kernel_rfl) _ rfl rfl fun vs ev W hf hI hd => ?_
          have e0 : ev (.tmp 4) = .int .i64 i := hf.off 4 rfl
          clear hK
          exact gives_pure (v := .int .i64 i) hI (by simp [gives, go_sem, e0]) rfl
        case h5 =>
          refine OpIs.plain (by kernel_rfl) _ rfl rfl fun vs ev W hf hI hd => ?_
          have e0 : ev (.tmp 29) = .slice (some ⟨b, o, none⟩) nds.length gc := (hf.of 3 _ 29 rfl rfl rfl (of_decide_eq_true rfl)).trans (hd 3 (by kernel_rfl))
          have e1 : ev (.tmp 30) = .int .i64 i := (hf.of 4 _ 30 rfl rfl rfl (of_decide_eq_true rfl)).trans (hd 4 (by kernel_rfl))
          clear hK
          exact gives_pure (v := .pointer (some ⟨b, o + i * 3, none⟩)) hI (by simp [gives, go_sem, e0, e1, hi0, hi1]) rfl
        case h6 =>
          refine OpIs.plain (by kernel_rfl) _ rfl rfl fun vs ev W hf hI hd => ?_
          have e0 : ev (.tmp 31) = .pointer (some ⟨b, o + i * 3, none⟩) := (hf.of 5 _ 31 rfl rfl rfl (of_decide_eq_true rfl)).trans (hd 5 (by kernel_rfl))
          clear hK
          exact gives_pure (v := .pointer (some ⟨b, o + i * 3, none⟩)) hI (by simp [gives, go_sem, e0]) rfl
        case h7 =>
          refine OpIs.plain (by kernel_rfl) _ rfl rfl fun vs ev W hf hI hd => ?_
          have e0 : ev (.tmp 32) = .pointer (some ⟨b, o + i * 3, none⟩) := (hf.of 6 _ 32 rfl rfl rfl (of_decide_eq_true rfl)).trans (hd 6 (by kernel_rfl))
          have d0 := (HCELL.out W hI.1.below).1
          clear hK
          exact gives_pure (v := .int .i64 x.op) hI (by simp [gives, go_sem, e0, d0]) rfl
        case h8 =>
          refine OpIs.plain (by kernel_rfl) _ rfl rfl fun vs ev W hf hI hd => ?_
          clear hK
          refine gives_mono (R := fun v w' => v = .slice (some ⟨W.heap.size, 0, none⟩) 0 0 ∧ w' = W.alloc (.cells #[] 3)) (by simp [gives, go_sem]) ?_
          rintro _ _ ⟨rfl, rfl⟩
          have hb := below_alloc W (.cells #[] 3)
          exact ⟨⟨_, rfl, World.ownsRow_made W #[] 0 (Nat.le_trans hwn hI.2) (Nat.zero_le _) (by simp)⟩, ⟨hI.1.call hb, Nat.le_trans hI.2 hb.size⟩, fun j u _ h => h.below hb⟩
        case h9 =>
          refine OpIs.plain (by kernel_rfl) _ rfl rfl fun vs ev W hf hI hd => ?_
          have e0 : ev (.tmp 1) = .pointer (some ⟨w.heap.size, 0, none⟩) := hf.off 1 rfl
          clear hK
          exact gives_pure (v := .pointer (some ⟨w.heap.size, 0, none⟩)) hI (by simp [gives, go_sem, e0]) rfl
        case h10 =>
          refine OpIs.plain (by kernel_rfl) _ rfl rfl fun vs ev W hf hI hd => ?_
          have e0 : ev (.tmp 35) = .pointer (some ⟨w.heap.size, 0, none⟩) := (hf.of 9 _ 35 rfl rfl rfl (of_decide_eq_true rfl)).trans (hd 9 (by kernel_rfl))
          have d0 := hI.1.gb.cell 0 rfl
          clear hK
          exact gives_pure (v := .slice (some ⟨b, o, none⟩) nds.length gc) hI (by simp [gives, go_sem, e0, d0]) rfl
        case h11 =>
          refine OpIs.plain (by kernel_rfl) _ rfl rfl fun vs ev W hf hI hd => ?_
          have e0 : ev (.tmp 4) = .int .i64 i := hf.off 4 rfl
          clear hK
          exact gives_pure (v := .int .i64 i) hI (by simp [gives, go_sem, e0]) rfl
        case h12 =>
          refine OpIs.plain (by kernel_rfl) _ rfl rfl fun vs ev W hf hI hd => ?_
          have e0 : ev (.tmp 36) = .slice (some ⟨b, o, none⟩) nds.length gc := (hf.of 10 _ 36 rfl rfl rfl (of_decide_eq_true rfl)).trans (hd 10 (by kernel_rfl))
          have e1 : ev (.tmp 37) = .int .i64 i := (hf.of 11 _ 37 rfl rfl rfl (of_decide_eq_true rfl)).trans (hd 11 (by kernel_rfl))
          clear hK
          exact gives_pure (v := .pointer (some ⟨b, o + i * 3, none⟩)) hI (by simp [gives, go_sem, e0, e1, hi0, hi1]) rfl
        case h13 =>
          refine OpIs.plain (by kernel_rfl) _ rfl rfl fun vs ev W hf hI hd => ?_
          have e0 : ev (.tmp 38) = .pointer (some ⟨b, o + i * 3, none⟩) := (hf.of 12 _ 38 rfl rfl rfl (of_decide_eq_true rfl)).trans (hd 12 (by kernel_rfl))
          clear hK
          exact gives_pure (v := .pointer (some ⟨b, o + i * 3 + 1, none⟩)) hI (by simp [gives, go_sem, e0]) rfl
        case h14 =>
          refine OpIs.plain (by kernel_rfl) _ rfl rfl fun vs ev W hf hI hd => ?_
          have e0 : ev (.tmp 39) = .pointer (some ⟨b, o + i * 3 + 1, none⟩) := (hf.of 13 _ 39 rfl rfl rfl (of_decide_eq_true rfl)).trans (hd 13 (by kernel_rfl))
          have d0 := (HCELL.out W hI.1.below).2.1
          clear hK
          exact gives_pure (v := .slice ia x.ins.length ic) hI (by simp [gives, go_sem, e0, d0]) rfl
        case h15 =>
          refine OpIs.plain (by kernel_rfl) _ rfl rfl fun vs ev W hf hI hd => ?_
          obtain ⟨g, h1, h2⟩ := hd 8 (by kernel_rfl)
          have e1 : ev (.tmp 34) = .slice (some ⟨g, 0, none⟩) 0 0 := (hf.of 8 _ 34 rfl rfl rfl (of_decide_eq_true rfl)).trans h1
          have e2 : ev (.tmp 40) = .slice ia x.ins.length ic := (hf.of 14 _ 40 rfl rfl rfl (of_decide_eq_true rfl)).trans (hd 14 (by kernel_rfl))
          obtain ⟨i3, hi3, hz0, hz1, hz2⟩ := info_parts infoI
          have hsl := (HCELL.out W hI.1.below).2.2.2.1
          obtain ⟨a', c', W', hr, ho, hbl⟩ := copy_ints 30 i3 8 Tryd.underlying30 hi3 hz0 hz1 hz2 h2 hsl (HFEW.out.1) (Nat.le_trans hwn hI.2)
          clear hK
          refine gives_mono (R := fun v w' => v = .slice a' x.ins.length c' ∧ w' = W') (by unfold gives; simp [execOp, resolve, invoke, builtin, e1, e2, hr, Result.andThen]) ?_
          rintro _ _ ⟨rfl, rfl⟩
          exact ⟨ho, ⟨hI.1.call hbl, Nat.le_trans hI.2 hbl.size⟩, fun j u _ h => h.below hbl⟩
        case h16 =>
          refine OpIs.plain (by kernel_rfl) _ rfl rfl fun vs ev W hf hI hd => ?_
          clear hK
          refine gives_mono (R := fun v w' => v = .slice (some ⟨W.heap.size, 0, none⟩) 0 0 ∧ w' = W.alloc (.cells #[] 3)) (by simp [gives, go_sem]) ?_
          rintro _ _ ⟨rfl, rfl⟩
          have hb := below_alloc W (.cells #[] 3)
          exact ⟨⟨_, rfl, World.ownsRow_made W #[] 0 (Nat.le_trans hwn hI.2) (Nat.zero_le _) (by simp)⟩, ⟨hI.1.call hb, Nat.le_trans hI.2 hb.size⟩, fun j u _ h => h.below hb⟩
        case h17 =>
          refine OpIs.plain (by kernel_rfl) _ rfl rfl fun vs ev W hf hI hd => ?_
          have e0 : ev (.tmp 1) = .pointer (some ⟨w.heap.size, 0, none⟩) := hf.off 1 rfl
          clear hK
          exact gives_pure (v := .pointer (some ⟨w.heap.size, 0, none⟩)) hI (by simp [gives, go_sem, e0]) rfl
        case h18 =>
          refine OpIs.plain (by kernel_rfl) _ rfl rfl fun vs ev W hf hI hd => ?_
          have e0 : ev (.tmp 43) = .pointer (some ⟨w.heap.size, 0, none⟩) := (hf.of 17 _ 43 rfl rfl rfl (of_decide_eq_true rfl)).trans (hd 17 (by kernel_rfl))
          have d0 := hI.1.gb.cell 0 rfl
          clear hK
          exact gives_pure (v := .slice (some ⟨b, o, none⟩) nds.length gc) hI (by simp [gives, go_sem, e0, d0]) rfl
        case h19 =>
          refine OpIs.plain (by kernel_rfl) _ rfl rfl fun vs ev W hf hI hd => ?_
          have e0 : ev (.tmp 4) = .int .i64 i := hf.off 4 rfl
          clear hK
          exact gives_pure (v := .int .i64 i) hI (by simp [gives, go_sem, e0]) rfl
        case h20 =>
          refine OpIs.plain (by kernel_rfl) _ rfl rfl fun vs ev W hf hI hd => ?_
          have e0 : ev (.tmp 44) = .slice (some ⟨b, o, none⟩) nds.length gc := (hf.of 18 _ 44 rfl rfl rfl (of_decide_eq_true rfl)).trans (hd 18 (by kernel_rfl))
          have e1 : ev (.tmp 45) = .int .i64 i := (hf.of 19 _ 45 rfl rfl rfl (of_decide_eq_true rfl)).trans (hd 19 (by kernel_rfl))
          clear hK
          exact gives_pure (v := .pointer (some ⟨b, o + i * 3, none⟩)) hI (by simp [gives, go_sem, e0, e1, hi0, hi1]) rfl
        case h21 =>
          refine OpIs.plain (by kernel_rfl) _ rfl rfl fun vs ev W hf hI hd => ?_
          have e0 : ev (.tmp 46) = .pointer (some ⟨b, o + i * 3, none⟩) := (hf.of 20 _ 46 rfl rfl rfl (of_decide_eq_true rfl)).trans (hd 20 (by kernel_rfl))
          clear hK
          exact gives_pure (v := .pointer (some ⟨b, o + i * 3 + 2, none⟩)) hI (by simp [gives, go_sem, e0]) rfl
        case h22 =>
          refine OpIs.plain (by kernel_rfl) _ rfl rfl fun vs ev W hf hI hd => ?_
          have e0 : ev (.tmp 47) = .pointer (some ⟨b, o + i * 3 + 2, none⟩) := (hf.of 21 _ 47 rfl rfl rfl (of_decide_eq_true rfl)).trans (hd 21 (by kernel_rfl))
          have d0 := (HCELL.out W hI.1.below).2.2.1
          clear hK
          exact gives_pure (v := .slice pa x.p.length pc) hI (by simp [gives, go_sem, e0, d0]) rfl
        case h23 =>
          refine OpIs.plain (by kernel_rfl) _ rfl rfl fun vs ev W hf hI hd => ?_
          obtain ⟨g, h1, h2⟩ := hd 16 (by kernel_rfl)
          have e1 : ev (.tmp 42) = .slice (some ⟨g, 0, none⟩) 0 0 := (hf.of 16 _ 42 rfl rfl rfl (of_decide_eq_true rfl)).trans h1
          have e2 : ev (.tmp 48) = .slice pa x.p.length pc := (hf.of 22 _ 48 rfl rfl rfl (of_decide_eq_true rfl)).trans (hd 22 (by kernel_rfl))
          obtain ⟨i3, hi3, hz0, hz1, hz2⟩ := info_parts infoI
          have hsl := (HCELL.out W hI.1.below).2.2.2.2
          obtain ⟨a', c', W', hr, ho, hbl⟩ := copy_ints 30 i3 8 Tryd.underlying30 hi3 hz0 hz1 hz2 h2 hsl (HFEW.out.2) (Nat.le_trans hwn hI.2)
          clear hK
          refine gives_mono (R := fun v w' => v = .slice a' x.p.length c' ∧ w' = W') (by unfold gives; simp [execOp, resolve, invoke, builtin, e1, e2, hr, Result.andThen]) ?_
          rintro _ _ ⟨rfl, rfl⟩
          exact ⟨ho, ⟨hI.1.call hbl, Nat.le_trans hI.2 hbl.size⟩, fun j u _ h => h.below hbl⟩
        case h24 =>
          refine OpIs.plain (by kernel_rfl) _ rfl rfl fun vs ev W hf hI hd => ?_
          have h1 := hd 15 (by kernel_rfl)
          have h2 := hd 23 (by kernel_rfl)
          have e0 : ev (.tmp 33) = .int .i64 x.op := (hf.of 7 _ 33 rfl rfl rfl (of_decide_eq_true rfl)).trans (hd 7 (by kernel_rfl))
          have e1 : ev (.tmp 41) = vs 15 := hf.of 15 _ 41 rfl rfl rfl (of_decide_eq_true rfl)
          have e2 : ev (.tmp 49) = vs 23 := hf.of 23 _ 49 rfl rfl rfl (of_decide_eq_true rfl)
          obtain ⟨a1, c1, q1⟩ := own_slv h1
          obtain ⟨a2, c2, q2⟩ := own_slv h2
          rw [q1] at e1 h1
          rw [q2] at e2 h2
          clear hK
          exact gives_pure (v := .agg #[.int .i64 x.op, .slice a1 x.ins.length c1, .slice a2 x.p.length c2]) hI (by simp [gives, go_sem, e0, e1, e2]) ⟨_, _, rfl, h1, h2⟩
        case h25 =>
          refine OpIs.plain (by kernel_rfl) _ rfl rfl fun vs ev W hf hI hd => ?_
          obtain ⟨s, t, h1, h2, h3⟩ := hd 24 (by kernel_rfl)
          have e0 := (hf.of 24 _ 50 rfl rfl rfl (of_decide_eq_true rfl)).trans h1
          obtain ⟨a1, c1, rfl⟩ := own_slv h2
          obtain ⟨a2, c2, rfl⟩ := own_slv h3
          clear hK
          refine gives_mono (R := fun v w' => v = .slice (some ⟨W.heap.size, 0, none⟩) 1 1 ∧ w' = W.alloc (.cells #[.int .i64 x.op, .slice a1 x.ins.length c1, .slice a2 x.p.length c2] 36)) (by simp [gives, go_sem, e0]) ?_
          rintro _ _ ⟨rfl, rfl⟩
          have hb := below_alloc W (.cells #[.int .i64 x.op, .slice a1 x.ins.length c1, .slice a2 x.p.length c2] 36)
          exact ⟨⟨_, _, _, rfl, hI.2, alloc_at W _, h2.below hb, h3.below hb⟩, ⟨hI.1.call hb, Nat.le_trans hI.2 hb.size⟩, fun j u _ h => h.below hb⟩
        case h26 =>
          refine OpIs.plain (by kernel_rfl) _ rfl rfl fun vs ev W hf hI hd => ?_
          obtain ⟨g, s, t, h1, h2, h3, h4, h5⟩ := hd 25 (by kernel_rfl)
          have e0 : ev (.tmp 27) = wv := (hf.of 1 _ 27 rfl rfl rfl (of_decide_eq_true rfl)).trans (hd 1 (by kernel_rfl))
          have e1 := (hf.of 25 _ 51 rfl rfl rfl (of_decide_eq_true rfl)).trans h1
          obtain ⟨i3, hi3, hz0, hz1, hz2⟩ := info_parts infoN
          have hown := hI.1.own
          rw [HLN.out] at hown
          have hs1 : s.oneCell' = true := by obtain ⟨_, _, rfl⟩ := own_slv h4; rfl
          have ht1 : t.oneCell' = true := by obtain ⟨_, _, rfl⟩ := own_slv h5; rfl
          obtain ⟨a', c', W', hr, ho, hold, hg⟩ := app_keep (P := Tryd.prog) 22 36 i3 (.agg #[.int .i64 0, .slice none 0 0, .slice none 0 0]) 3 56 Tryd.underlying22 hi3 hz0 hz1 hz2 rfl (by decide) wv i cells hown ⟨g, 0, none⟩ 1 1 [.int .i64 x.op, s, t] rfl (news_three h3) (by
            intro u hu
            simp at hu
            rcases hu with rfl | rfl | rfl
            · rfl
            · exact hs1
            · exact ht1) (by decide) HMM.out.1 HMM.out.2 (Nat.le_trans hwn hI.2)
          have hold' : W'.ownsRow (w.heap.size + 1) 36 3 wv (nds.take i).length cells := by rw [HLN.out]; exact hold
          have hlt : ∀ k, wv.ownBlock = some k → k < n2 := HWV.out
          obtain ⟨wa, wc, hwv⟩ := HWS.out
          have hint : ∀ (v : Value) (n : Nat) (xs : List Value), W.ownsRow (w.heap.size + 1) 3 1 v n xs → W'.ownsRow (w.heap.size + 1) 3 1 v n xs := fun v n xs hv => hI.1.ints hg hv
          clear hK
          refine gives_mono (R := fun v w' => v = .slice (some ⟨a', 0, none⟩) (i + 1) c' ∧ w' = W') (by unfold gives; rw [hwv] at hr e0; simp [execOp, resolve, invoke, builtin, e0, e1, hr, Result.andThen]) ?_
          rintro _ _ ⟨rfl, rfl⟩
          refine ⟨⟨a', c', s, t, rfl, ho, hint _ _ _ h4, hint _ _ _ h5⟩, ⟨hI.1.app hg hold', Nat.le_trans hI.2 hg.size⟩, fun j u hj h => h.keep hint (fun g cs hg2 hgb => ?_) fun e => absurd e hj⟩
          exact (hg.block g (Array.getElem?_eq_some_iff.1 hgb).1 fun e => by have := hlt g e.symm; omega).trans hgb
        case h27 =>
          refine OpIs.plain (by kernel_rfl) _ rfl rfl fun vs ev W hf hI hd => ?_
          have e0 : ev (.tmp 3) = .pointer (some ⟨H, 0, none⟩) := hf.off 3 rfl
          clear hK
          exact gives_pure (v := .pointer (some ⟨H, 0, none⟩)) hI (by simp [gives, go_sem, e0]) rfl
      case hlast =>
        intro vs W hI hT
        obtain ⟨g, c, s, t, h1, h2, h3, h4⟩ := hT 26 (by decide)
        have h5 := hT 27 (by decide)
        refine last_plain (by kernel_rfl) rfl fun F ev hF hf => ?_
        have e1 := (hf.of 26 _ 52 rfl rfl rfl (of_decide_eq_true rfl)).trans h1
        have e2 := (hf.of 27 _ 53 rfl rfl rfl (of_decide_eq_true rfl)).trans h5
        have q0 := hI.1.box.cell 0 rfl
        have f0 := hI.1.box.frozen 0
        refine gives_mono (R := fun v w' => v = undef ∧ w' = W.setCell ⟨H, 0, none⟩ (.slice (some ⟨g, 0, none⟩) (i + 1) c)) (by simp [gives, go_sem, e1, e2, q0, f0]) ?_
        rintro _ _ ⟨rfl, rfl⟩
        subst hF
        have HKD : Hid (KI w (.slice (some ⟨b, o, none⟩) nds.length gc) out H (.slice (some ⟨g, 0, none⟩) (i + 1) c) (cells ++ [.int .i64 x.op, s, t]) (nds.take (i + 1)) (W.setCell ⟨H, 0, none⟩ (.slice (some ⟨g, 0, none⟩) (i + 1) c))) := by
          have h := hI.1.done (v := .slice (some ⟨g, 0, none⟩) (i + 1) c) (x := x) (s := s) (t := t) (by rw [HLN.out]; exact h2) h3 h4
          have e : nds.take (i + 1) = nds.take i ++ [x] := by rw [List.take_succ_eq_append_getElem hil, HX.out]; simp [hil]
          rw [e]
          exact h
        simp [fr, Act.put, h1]
        clear hT hf h1 h2 h3 h4 h5 e1 e2 q0 f0 hI
        generalize vs 0 = v0 at *
        generalize vs 1 = v1 at *
        generalize vs 2 = v2 at *
        generalize vs 3 = v3 at *
        generalize vs 4 = v4 at *
        generalize vs 5 = v5 at *
        generalize vs 6 = v6 at *
        generalize vs 7 = v7 at *
        generalize vs 8 = v8 at *
        generalize vs 9 = v9 at *
        generalize vs 10 = v10 at *
        generalize vs 11 = v11 at *
        generalize vs 12 = v12 at *
        generalize vs 13 = v13 at *
        generalize vs 14 = v14 at *
        generalize vs 15 = v15 at *
        generalize vs 16 = v16 at *
        generalize vs 17 = v17 at *
        generalize vs 18 = v18 at *
        generalize vs 19 = v19 at *
        generalize vs 20 = v20 at *
        generalize vs 21 = v21 at *
        generalize vs 22 = v22 at *
        generalize vs 23 = v23 at *
        generalize vs 24 = v24 at *
        generalize vs 25 = v25 at *
        refine hK _ _ ?_
        clear hK
        go_wp2_with fail
        go_roundw
        case rel => exact ⟨i + 1, _, _, by omega, by go_num, HKD.out⟩
        case measure => simp [intOf]; omega
    · rename World => wC
      have ei : i = nds.length := by omega
      subst ei
      rw [List.take_length] at hr
      have HB0 : Hid (BI w wC (.slice ga nds.length gc) wv out H wC) := ⟨hr.gb, hr.box, Below.refl _ _, hr.gb.lt, hr.box.lt⟩
      have HGR : Hid (∀ W, BI w wC (.slice ga nds.length gc) wv out H W → Below w.heap.size w W ∧ Gr w.heap.size W (.slice ga nds.length gc) nds ∧ w.heap.size ≤ W.heap.size ∧ Gr wC.heap.size W wv nds ∧ wC.heap.size ≤ W.heap.size) := fun W hW => by
        have hb := hr.below.trans (hW.2.2.1.mono hr.below.size)
        exact ⟨hb, HG.out.1.below hb (Nat.le_refl _), hb.size, (hr.inn.gr hr.own HG.out.2.1).below hW.2.2.1 (Nat.le_refl _), hW.2.2.1.size⟩
      have g0 := hr.gb.cell 0 rfl
      have g1 := hr.gb.cell 1 rfl
      clear hr
      go_wp2_with fail
      refine (fgroups_c w.heap.size _ nds out true wC HGD.out (HGR.out wC HB0.out).2.1 (HGR.out wC HB0.out).2.2.1).mono ?_; rintro e w3 ⟨a3, c3, vs3, rfl, hu3, hb3⟩
      have hgl : (grp nds out true).length ≤ 100 := by
        have h1 := gsP_len (pR nds out true) (ord (insOf nds)) (ord (insOf nds)).length
        have h2 := ord_len (insOf nds)
        rw [insOf_len] at h2
        unfold grp
        omega
      have HLT : Hid (∀ r, r < (grp nds out true).length → ((grp nds out true).getD r []).length ≤ 100) := fun r hr => by
        have h : (grp nds out true).getD r [] ∈ grp nds out true := by
          have : (grp nds out true)[r]? = some ((grp nds out true).getD r []) := by simp [hr]
          exact List.mem_of_getElem? this
        unfold grp gsP at h
        rw [List.take_length, List.mem_filter] at h
        obtain ⟨l, _, e⟩ := List.mem_map.1 h.1
        unfold grp gsP
        rw [List.take_length, ← e]
        refine Nat.le_trans (List.length_filter_le _ _) ?_
        have h2 := ord_len (insOf nds)
        rw [insOf_len] at h2
        omega
      have H3 : Hid (BI w wC (.slice ga nds.length gc) wv out H w3 ∧ GZ wC.heap.size (grp nds out true) (.slice a3 (grp nds out true).length c3) vs3 w3) := ⟨HB0.out.call hb3, hu3.gz⟩
      clear g0 g1 hu3 hb3
      generalize grp nds out true = G at *
      go_wp2_with fail
      go_loopw [6] (fun iv W => ∃ i : Nat, i ≤ G.length ∧ iv = .int .i64 i ∧ BI w wC (.slice ga nds.length gc) wv out H W ∧ GZ wC.heap.size G (.slice a3 G.length c3) vs3 W) (fun iv _ => G.length - (intOf iv).toNat)
      case atStart => exact ⟨0, Nat.zero_le _, rfl, H3.out⟩
      case round =>
        obtain ⟨i, hi3, rfl, hbi, hz⟩ := hrel
        clear H3
        by_cases hil3 : i < G.length
        · obtain ⟨L, hL⟩ : ∃ L, L = (G.getD i []).length := ⟨_, rfl⟩
          have HLL : Hid (L = (G.getD i []).length) := hL
          have hL100 : L ≤ 100 := by rw [hL]; exact HLT.out i hil3
          have hi0 : (0 : Int) ≤ (i : Int) := by omega
          have hi1 : (i : Int) < (G.length : Int) := by omega
          have H7 : Hid (BI w wC (.slice ga nds.length gc) wv out H wr ∧ GZ wC.heap.size G (.slice a3 G.length c3) vs3 wr) := ⟨hbi, hz⟩
          clear hbi hz hL
          go_wp2_with fail
          go_loopw [7] (fun kv W => ∃ k : Nat, k ≤ L ∧ kv = .int .i64 k ∧ BI w wC (.slice ga nds.length gc) wv out H W ∧ GZ wC.heap.size G (.slice a3 G.length c3) vs3 W) (fun kv _ => L - (intOf kv).toNat)
          case atStart => exact ⟨0, Nat.zero_le _, rfl, H7.out⟩
          case round =>
            obtain ⟨k, hk, rfl, hbi, hz⟩ := hrel
            clear H7
            obtain ⟨o3, x3, y3, rfl, c0, _, xs, hxl, ho⟩ := hz.row rfl hil3
            rw [← HLL.out] at c0 hxl ho
            by_cases hkl : k < L
            · obtain ⟨g, rfl, hgB, c1, f1⟩ := row_spot ho (j := k) (by omega)
              have HE : Hid (BI w wC (.slice ga nds.length gc) wv out H (wr.setCell ⟨g, k, none⟩ (.int .i64 (-7))) ∧ GZ wC.heap.size G (.slice (some ⟨o3, 0, none⟩) G.length c3) vs3 (wr.setCell ⟨g, k, none⟩ (.int .i64 (-7)))) := ⟨hbi.set (by simp; omega) _, hz.store (i := 0) ho (-7)⟩
              clear hbi hz ho hxl
              go_wp2_with fail
              go_roundw
              case rel => exact ⟨k + 1, by omega, by go_num, HE.out⟩
              case measure => simp [intOf]; omega
            · have HE : Hid (BI w wC (.slice ga nds.length gc) wv out H wr ∧ GZ wC.heap.size G (.slice (some ⟨o3, 0, none⟩) G.length c3) vs3 wr) := ⟨hbi, hz⟩
              clear hbi hz ho hxl
              go_wp2_with fail
              go_roundw
              case rel => exact ⟨i + 1, by omega, by go_num, HE.out⟩
              case measure => simp [intOf]; omega
        · have ei : i = G.length := by omega
          subst ei
          rename World => w8
          have H8 : Hid (BI w wC (.slice ga nds.length gc) wv out H w8) := hbi
          have g0 := hbi.1.cell 0 rfl
          have g1 := hbi.1.cell 1 rfl
          have h0 := hbi.2.1.cell 0 rfl
          have h1 := hbi.2.1.cell 1 rfl
          clear hbi hz
          go_wp2_with fail
          refine (same_c _ _ _ _ nds out w8 (by omega) (HGR.out w8 H8.out).2.1 (HGR.out w8 H8.out).2.2.1 (HGR.out w8 H8.out).2.2.2.1 (HGR.out w8 H8.out).2.2.2.2).mono ?_; rintro e w9 ⟨rfl, hb9⟩
          have HE : Hid (Below w.heap.size w w9) := (HGR.out w8 H8.out).1.trans (hb9.mono (HGR.out w8 H8.out).2.2.1)
          clear g0 g1 h0 h1 hb9
          go_wp2_with fail
          go_ret
          exact ⟨rfl, HE.out⟩
section
open Go.ChangeShapes Go.WideShapes Go.ChangeAt
variable {H : Type} {enc : TypeId × Value → H} {W : World} {base : Nat}
theorem fuseKeeps.fuseKeeps_law (W : World) (ht : Tabs W) {v0 : Value} {d0 : DataW H} {p0 : List MemPlace}
    (h0 : DataW.Trod enc Tryd.prog W 0 (fun _ => true) true 24 v0 d0 p0) (k0 : Value.okWide Tryd.prog W .any base 24 v0) :
    Calls Tryd.prog 6 #[v0] W (TPost W) := by
  obtain ⟨nv, out, nds, rfl, hg, hout⟩ := graph_arg h0 k0
  exact fuseKeeps_walk nv nds out W ht hg
end
end Go.Proofs.YtijkcpkljmpplaaDoor
