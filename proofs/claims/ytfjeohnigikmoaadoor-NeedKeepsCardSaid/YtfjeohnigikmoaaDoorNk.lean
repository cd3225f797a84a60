/- The walk of 'NeedKeeps'. (Printed by mk_nkeeps.py.) -/
import Derived.Test.YtfjeohnigikmoaaDoorRa
import Derived.Test.YtfjeohnigikmoaaDoorKp
namespace Go.Proofs.YtfjeohnigikmoaaDoor
open Go.RowKit Go.Bx Go.Od Go.Hp
attribute [local go_sem ↓] Go.wp_at_zero Go.wp_at_succ
set_option linter.unusedVariables false

theorem own_slv {w : World} {B : Nat} {v : Value} {xs : List Int} (h : OwnP w B v xs) : ∃ a c, v = .slice a xs.length c := by
  rcases h.form with ⟨rfl, rfl⟩ | ⟨g, cap, rfl, _⟩
  · exact ⟨none, 0, rfl⟩
  · exact ⟨_, cap, rfl⟩
theorem news_three {W : World} {g : Nat} {x y z : Value} {t : TypeId} (h : W.heap[g]? = some (.cells #[x, y, z] t (0, 0))) : ∀ j u, [x, y, z][j]? = some u → W.cell? ((⟨g, 0, none⟩ : Addr).add j) = some u := by
  intro j u hu
  have hb : Box W g [x, y, z] := ⟨t, h⟩
  rw [Go.WideShapes.add_plain, Nat.zero_add]
  exact hb.cell j hu
/-- 'append([]int{}, xs...)' -/
theorem copy_ints {w : World} {B g C : Nat} (t : TypeId) (i : TypeInfo) (bytes : Nat) (ht : Tryd.prog.underlying t = some (.slice 3)) (hi : Tryd.prog.info? 3 = some i) (hz : i.zero = some (.int .i64 0)) (hsize : i.size = 1) (hby : i.bytes = bytes)
    (hv : w.ownsRow B 3 1 (.slice (some ⟨g, 0, none⟩) 0 0) 0 []) {a : Option Addr} {xs : List Int} {c : Nat} (hs : SlOf RInt 1 (· < C) w (.slice a xs.length c) xs) (hl : xs.length * bytes ≤ 140737488355328) (hB : B ≤ w.heap.size) :
    ∃ a' c' w', (Builtin.append_ #[t, t] t #[.slice (some ⟨g, 0, none⟩) 0 0, .slice a xs.length c]).run Tryd.prog w = .ok (.slice a' xs.length c') w' ∧ OwnP w' B (.slice a' xs.length c') xs ∧ Below w.heap.size w w' := by
  obtain ⟨a2, cap, hv2, hc, hm, _, hcell⟩ := hs.ints
  simp only [Value.slice.injEq] at hv2
  obtain ⟨rfl, _, rfl⟩ := hv2
  exact app_empty (P := Tryd.prog) t 3 i (.int .i64 0) bytes ht hi hz hsize hby rfl hv a xs.length c (xs.map (Value.int .i64)) (by simp) (fun b hbe j u hu => by
      have hj : j < xs.length := by have := (List.getElem?_eq_some_iff.1 hu).1; simpa using this
      obtain ⟨b', o, h1, _, h2⟩ := hcell j hj
      rw [hbe] at h1
      cases h1
      rw [Go.WideShapes.add_plain, h2 j hj, ← hu]
      simp [hj]) (fun u hu => by obtain ⟨x, _, rfl⟩ := List.mem_map.1 hu; rfl) (fun hn => by
      by_cases h : xs.length = 0
      · exact h
      · obtain ⟨b', o, h1, _⟩ := hcell 0 (by omega)
        rw [hn] at h1; cases h1) (Nat.le_trans hc hm) hl hB
/-- all that was there when the copy was done is as it was -/
def BI (w wC : World) (nv wv : Value) (out : Int) (H : Nat) (W : World) : Prop := Box W w.heap.size [nv, .int .i64 out] ∧ Box W H [wv, .int .i64 out] ∧ Below wC.heap.size wC W ∧ w.heap.size < wC.heap.size ∧ H < wC.heap.size
theorem BI.call {w wC W W' : World} {nv wv : Value} {out : Int} {H : Nat} (h : BI w wC nv wv out H W) (hb : Below W.heap.size W W') : BI w wC nv wv out H W' := ⟨h.1.call hb, h.2.1.call hb, h.2.2.1.trans (hb.mono h.2.2.1.size), h.2.2.2⟩
theorem BI.set {w wC W : World} {nv wv : Value} {out : Int} {H : Nat} (h : BI w wC nv wv out H W) {p : Addr} (hp : wC.heap.size ≤ p.block) (v : Value) : BI w wC nv wv out H (W.setCell p v) := ⟨h.1.set (by have := h.2.2.2.1; omega) _, h.2.1.set (by have := h.2.2.2.2; omega) _, h.2.2.1.setCell hp _, h.2.2.2⟩
/-- a graph and a rectangle, boxed: of the rectangle's block the type is known too -/
def RW (w W : World) (nv : Value) (out : Int) (r : Rc) : Prop := Box W w.heap.size [nv, .int .i64 out] ∧ W.heap[w.heap.size + 1]? = some (.cells (cs4 r.x0 r.y0 r.x1 r.y1) 26 (0, 0)) ∧ Below w.heap.size w W
theorem RW.new (w : World) (nv : Value) (out : Int) (r : Rc) : RW w ((w.alloc (.cells #[nv, .int .i64 out] 24)).alloc (.cells (cs4 r.x0 r.y0 r.x1 r.y1) 26)) nv out r := by
  have h0 := Box.new w [nv, .int .i64 out] 24
  have h1 := alloc_at (w.alloc (.cells #[nv, .int .i64 out] 24)) (.cells (cs4 r.x0 r.y0 r.x1 r.y1) 26)
  rw [size_alloc] at h1
  exact ⟨h0.alloc _, h1, (below_new w _).alloc (by rw [size_alloc]; omega) _⟩
theorem RW.call {w W W' : World} {nv : Value} {out : Int} {r : Rc} (h : RW w W nv out r) (hb : Below W.heap.size W W') : RW w W' nv out r := ⟨h.1.call hb, (hb.block _ (Array.getElem?_eq_some_iff.1 h.2.1).1).trans h.2.1, h.2.2.trans (hb.mono h.2.2.size)⟩
theorem RW.box {w W : World} {nv : Value} {out : Int} {r : Rc} (h : RW w W nv out r) : Box W (w.heap.size + 1) (cl4 r) := ⟨_, h.2.1⟩
/-- between the rounds that copy -/
structure KJ (w : World) (nv : Value) (out : Int) (r : Rc) (H : Nat) (wv : Value) (cells : List Value) (nds : List Nd) (W : World) : Prop extends KI w nv out H wv cells nds W where
  rb : W.heap[w.heap.size + 1]? = some (.cells (cs4 r.x0 r.y0 r.x1 r.y1) 26 (0, 0))
section
variable {w W W' : World} {nv wv : Value} {out : Int} {r : Rc} {H : Nat} {cells : List Value} {nds : List Nd}
theorem KJ.rbox (h : KJ w nv out r H wv cells nds W) : Box W (w.heap.size + 1) (cl4 r) := ⟨_, h.rb⟩
theorem KJ.call (h : KJ w nv out r H wv cells nds W) (hb : Below W.heap.size W W') : KJ w nv out r H wv cells nds W' := ⟨h.toKI.call hb, (hb.block _ (Array.getElem?_eq_some_iff.1 h.rb).1).trans h.rb⟩
theorem KJ.app (h : KJ w nv out r H wv cells nds W) (hg : W.grownBy W' wv.ownBlock) (hown : W'.ownsRow (w.heap.size + 1) 39 3 wv nds.length cells) : KJ w nv out r H wv cells nds W' :=
  ⟨h.toKI.app hg hown, (hg.block _ (Array.getElem?_eq_some_iff.1 h.rb).1 fun e => own_apart h.own h.rb (by decide) e.symm).trans h.rb⟩
theorem KJ.done {x : Nd} {v s t : Value} (h : KJ w nv out r H wv cells nds W) (hown : W.ownsRow (w.heap.size + 1) 39 3 v (nds.length + 1) (cells ++ [.int .i64 x.op, s, t])) (hs : OwnP W (w.heap.size + 1) s x.ins) (ht : OwnP W (w.heap.size + 1) t x.p) :
    KJ w nv out r H v (cells ++ [.int .i64 x.op, s, t]) (nds ++ [x]) (W.setCell ⟨H, 0, none⟩ v) := by
  refine ⟨h.toKI.done hown hs ht, ?_⟩
  rw [Below.heap_setCell _ _ _ _ fun e => ?_]
  · exact h.rb
  · have e : w.heap.size + 1 = H := e
    have h1 := h.rb
    rw [e, h.hb] at h1
    simp at h1
end
set_option maxRecDepth 4000 in
set_option maxHeartbeats 6400000 in
theorem needKeeps_walk (nv : Value) (nds : List Nd) (out : Int) (want : Rc) (w : World) (ht : Tabs w) (hg : Gr w.heap.size w nv nds) :
    Calls Tryd.prog 5 #[.agg #[nv, .int .i64 out], rv want] w (TPost w) := by
  obtain ⟨ga, gc, rfl⟩ := hg.isSl
  have hgl := hg.len_le
  have HG : Hid (Gr w.heap.size w (.slice ga nds.length gc) nds ∧ Nd64 nds ∧ Tabs w) := ⟨hg, hg.nd64, ht⟩
  obtain ⟨x0, y0, x1, y1⟩ := want
  clear hg ht
  have H1 : Hid (RW w ((w.alloc (.cells #[.slice ga nds.length gc, .int .i64 out] 24)).alloc (.cells (cs4 x0 y0 x1 y1) 26)) (.slice ga nds.length gc) out ⟨x0, y0, x1, y1⟩) := RW.new w _ _ ⟨x0, y0, x1, y1⟩
  go_enter Tryd.func5, Tryd.ntmps5
  go_wp2_with fail
  generalize ((w.alloc (.cells #[.slice ga nds.length gc, .int .i64 out] 24)).alloc (.cells (cs4 x0 y0 x1 y1) 26)) = W1 at *
  refine (awake14_c W1).mono ?_; rintro e w2 ⟨rfl, hb2⟩
  have H2 : Hid (RW w w2 (.slice ga nds.length gc) out ⟨x0, y0, x1, y1⟩) := H1.out.call hb2
  clear hb2 H1
  have g0 := H2.out.1.cell 0 rfl
  have g1 := H2.out.1.cell 1 rfl
  go_wp2_with fail
  refine (right14_c w.heap.size _ nds out w2 (HG.out.2.2.below H2.out.2.2) (HG.out.1.below H2.out.2.2 (Nat.le_refl _)) H2.out.2.2.size).mono ?_; rintro e w3 ⟨rfl, hb3⟩
  have H3 : Hid (RW w w3 (.slice ga nds.length gc) out ⟨x0, y0, x1, y1⟩) := H2.out.call hb3
  clear g0 g1 hb3 H2
  obtain ⟨r, hr⟩ : ∃ r, r = rightB nds out := ⟨_, rfl⟩
  rw [← hr]
  cases r with
  | false =>
    clear hr
    go_wp2_with fail
    refine (awake14_c w3).mono ?_; rintro e w4 ⟨rfl, hb4⟩
    have HE : Hid (Below w.heap.size w w4) := H3.out.2.2.trans (hb4.mono H3.out.2.2.size)
    go_wp2_with fail
    go_ret
    exact ⟨rfl, HE.out⟩
  | true =>
  have HGD : Hid (GoodN nds out) := goodN_of hr.symm
  have HF : Hid (nds.length ≤ 100 ∧ ∀ i, i < nds.length → (nds.getD i Nd.none).ins.length ≤ 20 ∧ (nds.getD i Nd.none).p.length ≤ 40) := by
    have hr' := hr.symm
    unfold rightB at hr'
    rw [Bool.and_eq_true] at hr'
    exact ⟨HGD.out.few, ((fewB_iff _ _).1 hr'.1).2⟩
  have hn100 := HF.out.1
  obtain ⟨c0, c1, c2, c3⟩ := box4 H3.out.box
  clear hr
  go_wp2_with fail
  refine (right03_c ⟨x0, y0, x1, y1⟩ w3).mono ?_; rintro e w4 ⟨rfl, hb4⟩
  have H4 : Hid (RW w w4 (.slice ga nds.length gc) out ⟨x0, y0, x1, y1⟩) := H3.out.call hb4
  clear c0 c1 c2 c3 hb4 H3
  obtain ⟨r, hr⟩ : ∃ r, r = rightR ⟨x0, y0, x1, y1⟩ := ⟨_, rfl⟩
  rw [← hr]
  cases r with
  | false =>
    clear hr
    go_wp2_with fail
    refine (awake14_c w4).mono ?_; rintro e w5 ⟨rfl, hb5⟩
    have HE : Hid (Below w.heap.size w w5) := H4.out.2.2.trans (hb5.mono H4.out.2.2.size)
    go_wp2_with fail
    go_ret
    exact ⟨rfl, HE.out⟩
  | true =>
  have HW : Hid (RcP ⟨x0, y0, x1, y1⟩) := (rightR_iff _).1 hr.symm
  have g0 := H4.out.1.cell 0 rfl
  have g1 := H4.out.1.cell 1 rfl
  clear hr
  obtain ⟨H, hH⟩ : ∃ H, H = w4.heap.size := ⟨_, rfl⟩
  have HK0 : Hid (KJ w (.slice ga nds.length gc) out ⟨x0, y0, x1, y1⟩ H (.slice none 0 0) [] (nds.take 0) (w4.alloc (.cells #[.slice none 0 0, .int .i64 out] 24))) := by
    rw [hH]
    exact ⟨⟨H4.out.1.alloc _, alloc_at w4 _, H4.out.2.2.trans ((below_alloc w4 _).mono H4.out.2.2.size), World.ownsRow_nil _ _ _ _, ⟨rfl, fun j x hj => by simp at hj⟩, H4.out.1.lt⟩, (H4.out.call (below_alloc w4 _)).2.1⟩
  go_wp2_with fail
  rw [← hH]
  clear g0 g1 H4 hH
  go_loopw [6] (fun iv wr => ∃ (i : Nat) (wv : Value) (cells : List Value), i ≤ nds.length ∧ iv = .int .i64 i ∧ KJ w (.slice ga nds.length gc) out ⟨x0, y0, x1, y1⟩ H wv cells (nds.take i) wr) (fun iv _ => nds.length - (intOf iv).toNat)
  case atStart => exact ⟨0, _, _, Nat.zero_le _, rfl, HK0.out⟩
  case round =>
    obtain ⟨i, wv, cells, hi, rfl, hr⟩ := hrel
    clear HK0
    by_cases hil : i < nds.length
    · obtain ⟨b, o, cap, ia, ic, pa, pc, hv, hbB, hcap, hcm, k0, k1, k2, s1, s2⟩ := HG.out.1.node hil
      simp only [Value.slice.injEq] at hv
      obtain ⟨rfl, _, rfl⟩ := hv
      obtain ⟨x, hx⟩ : ∃ x, x = nds.getD i Nd.none := ⟨_, rfl⟩
      have hx20 := HF.out.2 i hil
      rw [← hx] at k0 k1 k2 s1 s2 hx20
      have HX : Hid (x = nds.getD i Nd.none) := hx
      clear hx
      have HCELL : Hid (∀ W, Below w.heap.size w W → W.cell? ⟨b, o + i * 3, none⟩ = some (.int .i64 x.op) ∧ W.cell? ⟨b, o + i * 3 + 1, none⟩ = some (.slice ia x.ins.length ic) ∧ W.cell? ⟨b, o + i * 3 + 2, none⟩ = some (.slice pa x.p.length pc) ∧
          SlOf RInt 1 (· < w.heap.size) W (.slice ia x.ins.length ic) x.ins ∧ SlOf RInt 1 (· < w.heap.size) W (.slice pa x.p.length pc) x.p) := fun W hb =>
        ⟨(hb.cell (lt_of_cell k0)).trans k0, (hb.cell (lt_of_cell k1)).trans k1, (hb.cell (lt_of_cell k2)).trans k2, sl_below s1 hb, sl_below s2 hb⟩
      have HFEW : Hid (x.ins.length * 8 ≤ 140737488355328 ∧ x.p.length * 8 ≤ 140737488355328) := ⟨by omega, by omega⟩
      have hln : (nds.take i).length = i := by rw [List.length_take]; omega
      have HLN : Hid ((nds.take i).length = i) := hln
      clear hln
      have HMM : Hid (i + 1 ≤ maxLen ∧ (i + 1) * 56 ≤ 140737488355328) := by constructor <;> (try unfold maxLen) <;> omega
      obtain ⟨n2, hn2⟩ : ∃ n2, n2 = wr.heap.size := ⟨_, rfl⟩
      have HWV : Hid (∀ k, wv.ownBlock = some k → k < n2) := fun k hk => by rw [hn2]; exact (World.ownsRow.lt hr.own k hk).2
      have HWS : Hid (∃ a c, wv = .slice a i c) := by
        rcases hr.own.2 with ⟨rfl, h⟩ | ⟨g, c, _, rfl, _⟩
        · rw [HLN.out] at h
          exact ⟨none, 0, by rw [h]⟩
        · rw [HLN.out]; exact ⟨_, _, rfl⟩
      have HR : Hid (KJ w (.slice (some ⟨b, o, none⟩) nds.length gc) out ⟨x0, y0, x1, y1⟩ H wv cells (nds.take i) wr ∧ n2 ≤ wr.heap.size) := ⟨hr, by rw [hn2]; exact Nat.le_refl _⟩
      have hwn : w.heap.size + 1 ≤ n2 := by rw [hn2]; have := hr.gb.lt; omega
      have hi0 : (0 : Int) ≤ (i : Int) := by omega
      have hi1 : (i : Int) < (nds.length : Int) := by omega
      have g0 := hr.gb.cell 0 rfl
      have hcm1 : nds.length ≤ gc := hcap
      unfold maxLen at hcm
      clear k0 k1 k2 s1 s2 hr hn2
      go_wp2_with fail
      clear g0
      rename_i K hK
      refine wp_region_last (fun W => KJ w (.slice (some ⟨b, o, none⟩) nds.length gc) out ⟨x0, y0, x1, y1⟩ H wv cells (nds.take i) W ∧ n2 ≤ W.heap.size) (K7 w.heap.size H (w.heap.size + 1) n2 i b o wv (.slice (some ⟨b, o, none⟩) nds.length gc) (.slice ia x.ins.length ic) (.slice pa x.p.length pc) cells x) 28 _ rfl rfl (by kernel_rfl) (by kernel_rfl) ⟨(HR.out.1.call ((Below.refl _ _).drew)), HR.out.2⟩ ?hop ?hlast
      case hop =>
        refine Each.get (n := 28) ⟨⟨⟨⟨⟨⟨⟨⟨⟨⟨⟨⟨⟨⟨⟨⟨⟨⟨⟨⟨⟨⟨⟨⟨⟨⟨⟨⟨trivial, ?h0⟩, ?h1⟩, ?h2⟩, ?h3⟩, ?h4⟩, ?h5⟩, ?h6⟩, ?h7⟩, ?h8⟩, ?h9⟩, ?h10⟩, ?h11⟩, ?h12⟩, ?h13⟩, ?h14⟩, ?h15⟩, ?h16⟩, ?h17⟩, ?h18⟩, ?h19⟩, ?h20⟩, ?h21⟩, ?h22⟩, ?h23⟩, ?h24⟩, ?h25⟩, ?h26⟩, ?h27⟩
        case h0 =>
          refine OpIs.plain (by kernel_rfl) _ rfl rfl fun vs ev W hf hI hd => ?_
          have e0 : ev (.tmp 5) = .pointer (some ⟨H, 0, none⟩) := hf.off 5 rfl
          clear hK
          exact gives_pure (v := .pointer (some ⟨H, 0, none⟩)) hI (by simp [gives, go_sem, e0]) rfl
        case h1 =>
          refine OpIs.plain (by kernel_rfl) _ rfl rfl fun vs ev W hf hI hd => ?_
          have e0 : ev (.tmp 33) = .pointer (some ⟨H, 0, none⟩) := (hf.of 0 _ 33 rfl rfl rfl (of_decide_eq_true rfl)).trans (hd 0 (by kernel_rfl))
          have d0 := hI.1.box.cell 0 rfl
          clear hK
          exact gives_pure (v := wv) hI (by simp [gives, go_sem, e0, d0]) rfl
        case h2 =>
          refine OpIs.plain (by kernel_rfl) _ rfl rfl fun vs ev W hf hI hd => ?_
          have e0 : ev (.tmp 2) = .pointer (some ⟨w.heap.size, 0, none⟩) := hf.off 2 rfl
          clear hK
          exact gives_pure (v := .pointer (some ⟨w.heap.size, 0, none⟩)) hI (by simp [gives, go_sem, e0]) rfl
        case h3 =>
          refine OpIs.plain (by kernel_rfl) _ rfl rfl fun vs ev W hf hI hd => ?_
          have e0 : ev (.tmp 35) = .pointer (some ⟨w.heap.size, 0, none⟩) := (hf.of 2 _ 35 rfl rfl rfl (of_decide_eq_true rfl)).trans (hd 2 (by kernel_rfl))
          have d0 := hI.1.gb.cell 0 rfl
          clear hK
          exact gives_pure (v := .slice (some ⟨b, o, none⟩) nds.length gc) hI (by simp [gives, go_sem, e0, d0]) rfl
        case h4 =>
          refine OpIs.plain (by kernel_rfl) _ rfl rfl fun vs ev W hf hI hd => ?_
          have e0 : ev (.tmp 6) = .int .i64 i := hf.off 6 rfl
          clear hK
          exact gives_pure (v := .int .i64 i) hI (by simp [gives, go_sem, e0]) rfl
        case h5 =>
          refine OpIs.plain (by kernel_rfl) _ rfl rfl fun vs ev W hf hI hd => ?_
          have e0 : ev (.tmp 36) = .slice (some ⟨b, o, none⟩) nds.length gc := (hf.of 3 _ 36 rfl rfl rfl (of_decide_eq_true rfl)).trans (hd 3 (by kernel_rfl))
          have e1 : ev (.tmp 37) = .int .i64 i := (hf.of 4 _ 37 rfl rfl rfl (of_decide_eq_true rfl)).trans (hd 4 (by kernel_rfl))
          clear hK
          exact gives_pure (v := .pointer (some ⟨b, o + i * 3, none⟩)) hI (by simp [gives, go_sem, e0, e1, hi0, hi1]) rfl
        case h6 =>
          refine OpIs.plain (by kernel_rfl) _ rfl rfl fun vs ev W hf hI hd => ?_
          have e0 : ev (.tmp 38) = .pointer (some ⟨b, o + i * 3, none⟩) := (hf.of 5 _ 38 rfl rfl rfl (of_decide_eq_true rfl)).trans (hd 5 (by kernel_rfl))
          clear hK
          exact gives_pure (v := .pointer (some ⟨b, o + i * 3, none⟩)) hI (by simp [gives, go_sem, e0]) rfl
        case h7 =>
          refine OpIs.plain (by kernel_rfl) _ rfl rfl fun vs ev W hf hI hd => ?_
          have e0 : ev (.tmp 39) = .pointer (some ⟨b, o + i * 3, none⟩) := (hf.of 6 _ 39 rfl rfl rfl (of_decide_eq_true rfl)).trans (hd 6 (by kernel_rfl))
          have d0 := (HCELL.out W hI.1.below).1
          clear hK
          exact gives_pure (v := .int .i64 x.op) hI (by simp [gives, go_sem, e0, d0]) rfl
        case h8 =>
          refine OpIs.plain (by kernel_rfl) _ rfl rfl fun vs ev W hf hI hd => ?_
          clear hK
          refine gives_mono (R := fun v w' => v = .slice (some ⟨W.heap.size, 0, none⟩) 0 0 ∧ w' = W.alloc (.cells #[] 3)) (by simp [gives, go_sem]) ?_
          rintro _ _ ⟨rfl, rfl⟩
          have hb := below_alloc W (.cells #[] 3)
          exact ⟨⟨_, rfl, World.ownsRow_made W #[] 0 (Nat.le_trans hwn hI.2) (Nat.zero_le _) (by simp)⟩, ⟨hI.1.call hb, Nat.le_trans hI.2 hb.size⟩, fun j u _ h => h.below hb⟩
        case h9 =>
          refine OpIs.plain (by kernel_rfl) _ rfl rfl fun vs ev W hf hI hd => ?_
          have e0 : ev (.tmp 2) = .pointer (some ⟨w.heap.size, 0, none⟩) := hf.off 2 rfl
          clear hK
          exact gives_pure (v := .pointer (some ⟨w.heap.size, 0, none⟩)) hI (by simp [gives, go_sem, e0]) rfl
        case h10 =>
          refine OpIs.plain (by kernel_rfl) _ rfl rfl fun vs ev W hf hI hd => ?_
          have e0 : ev (.tmp 42) = .pointer (some ⟨w.heap.size, 0, none⟩) := (hf.of 9 _ 42 rfl rfl rfl (of_decide_eq_true rfl)).trans (hd 9 (by kernel_rfl))
          have d0 := hI.1.gb.cell 0 rfl
          clear hK
          exact gives_pure (v := .slice (some ⟨b, o, none⟩) nds.length gc) hI (by simp [gives, go_sem, e0, d0]) rfl
        case h11 =>
          refine OpIs.plain (by kernel_rfl) _ rfl rfl fun vs ev W hf hI hd => ?_
          have e0 : ev (.tmp 6) = .int .i64 i := hf.off 6 rfl
          clear hK
          exact gives_pure (v := .int .i64 i) hI (by simp [gives, go_sem, e0]) rfl
        case h12 =>
          refine OpIs.plain (by kernel_rfl) _ rfl rfl fun vs ev W hf hI hd => ?_
          have e0 : ev (.tmp 43) = .slice (some ⟨b, o, none⟩) nds.length gc := (hf.of 10 _ 43 rfl rfl rfl (of_decide_eq_true rfl)).trans (hd 10 (by kernel_rfl))
          have e1 : ev (.tmp 44) = .int .i64 i := (hf.of 11 _ 44 rfl rfl rfl (of_decide_eq_true rfl)).trans (hd 11 (by kernel_rfl))
          clear hK
          exact gives_pure (v := .pointer (some ⟨b, o + i * 3, none⟩)) hI (by simp [gives, go_sem, e0, e1, hi0, hi1]) rfl
        case h13 =>
          refine OpIs.plain (by kernel_rfl) _ rfl rfl fun vs ev W hf hI hd => ?_
          have e0 : ev (.tmp 45) = .pointer (some ⟨b, o + i * 3, none⟩) := (hf.of 12 _ 45 rfl rfl rfl (of_decide_eq_true rfl)).trans (hd 12 (by kernel_rfl))
          clear hK
          exact gives_pure (v := .pointer (some ⟨b, o + i * 3 + 1, none⟩)) hI (by simp [gives, go_sem, e0]) rfl
        case h14 =>
          refine OpIs.plain (by kernel_rfl) _ rfl rfl fun vs ev W hf hI hd => ?_
          have e0 : ev (.tmp 46) = .pointer (some ⟨b, o + i * 3 + 1, none⟩) := (hf.of 13 _ 46 rfl rfl rfl (of_decide_eq_true rfl)).trans (hd 13 (by kernel_rfl))
          have d0 := (HCELL.out W hI.1.below).2.1
          clear hK
          exact gives_pure (v := .slice ia x.ins.length ic) hI (by simp [gives, go_sem, e0, d0]) rfl
        case h15 =>
          refine OpIs.plain (by kernel_rfl) _ rfl rfl fun vs ev W hf hI hd => ?_
          obtain ⟨g, h1, h2⟩ := hd 8 (by kernel_rfl)
          have e1 : ev (.tmp 41) = .slice (some ⟨g, 0, none⟩) 0 0 := (hf.of 8 _ 41 rfl rfl rfl (of_decide_eq_true rfl)).trans h1
          have e2 : ev (.tmp 47) = .slice ia x.ins.length ic := (hf.of 14 _ 47 rfl rfl rfl (of_decide_eq_true rfl)).trans (hd 14 (by kernel_rfl))
          obtain ⟨i3, hi3, hz0, hz1, hz2⟩ := info_parts infoI
          have hsl := (HCELL.out W hI.1.below).2.2.2.1
          obtain ⟨a', c', W', hr, ho, hbl⟩ := copy_ints 37 i3 8 Tryd.underlying37 hi3 hz0 hz1 hz2 h2 hsl (HFEW.out.1) (Nat.le_trans hwn hI.2)
          clear hK
          refine gives_mono (R := fun v w' => v = .slice a' x.ins.length c' ∧ w' = W') (by unfold gives; simp [execOp, resolve, invoke, builtin, e1, e2, hr, Result.andThen]) ?_
          rintro _ _ ⟨rfl, rfl⟩
          exact ⟨ho, ⟨hI.1.call hbl, Nat.le_trans hI.2 hbl.size⟩, fun j u _ h => h.below hbl⟩
        case h16 =>
          refine OpIs.plain (by kernel_rfl) _ rfl rfl fun vs ev W hf hI hd => ?_
          clear hK
          refine gives_mono (R := fun v w' => v = .slice (some ⟨W.heap.size, 0, none⟩) 0 0 ∧ w' = W.alloc (.cells #[] 3)) (by simp [gives, go_sem]) ?_
          rintro _ _ ⟨rfl, rfl⟩
          have hb := below_alloc W (.cells #[] 3)
          exact ⟨⟨_, rfl, World.ownsRow_made W #[] 0 (Nat.le_trans hwn hI.2) (Nat.zero_le _) (by simp)⟩, ⟨hI.1.call hb, Nat.le_trans hI.2 hb.size⟩, fun j u _ h => h.below hb⟩
        case h17 =>
          refine OpIs.plain (by kernel_rfl) _ rfl rfl fun vs ev W hf hI hd => ?_
          have e0 : ev (.tmp 2) = .pointer (some ⟨w.heap.size, 0, none⟩) := hf.off 2 rfl
          clear hK
          exact gives_pure (v := .pointer (some ⟨w.heap.size, 0, none⟩)) hI (by simp [gives, go_sem, e0]) rfl
        case h18 =>
          refine OpIs.plain (by kernel_rfl) _ rfl rfl fun vs ev W hf hI hd => ?_
          have e0 : ev (.tmp 50) = .pointer (some ⟨w.heap.size, 0, none⟩) := (hf.of 17 _ 50 rfl rfl rfl (of_decide_eq_true rfl)).trans (hd 17 (by kernel_rfl))
          have d0 := hI.1.gb.cell 0 rfl
          clear hK
          exact gives_pure (v := .slice (some ⟨b, o, none⟩) nds.length gc) hI (by simp [gives, go_sem, e0, d0]) rfl
        case h19 =>
          refine OpIs.plain (by kernel_rfl) _ rfl rfl fun vs ev W hf hI hd => ?_
          have e0 : ev (.tmp 6) = .int .i64 i := hf.off 6 rfl
          clear hK
          exact gives_pure (v := .int .i64 i) hI (by simp [gives, go_sem, e0]) rfl
        case h20 =>
          refine OpIs.plain (by kernel_rfl) _ rfl rfl fun vs ev W hf hI hd => ?_
          have e0 : ev (.tmp 51) = .slice (some ⟨b, o, none⟩) nds.length gc := (hf.of 18 _ 51 rfl rfl rfl (of_decide_eq_true rfl)).trans (hd 18 (by kernel_rfl))
          have e1 : ev (.tmp 52) = .int .i64 i := (hf.of 19 _ 52 rfl rfl rfl (of_decide_eq_true rfl)).trans (hd 19 (by kernel_rfl))
          clear hK
          exact gives_pure (v := .pointer (some ⟨b, o + i * 3, none⟩)) hI (by simp [gives, go_sem, e0, e1, hi0, hi1]) rfl
        case h21 =>
          refine OpIs.plain (by kernel_rfl) _ rfl rfl fun vs ev W hf hI hd => ?_
          have e0 : ev (.tmp 53) = .pointer (some ⟨b, o + i * 3, none⟩) := (hf.of 20 _ 53 rfl rfl rfl (of_decide_eq_true rfl)).trans (hd 20 (by kernel_rfl))
          clear hK
          exact gives_pure (v := .pointer (some ⟨b, o + i * 3 + 2, none⟩)) hI (by simp [gives, go_sem, e0]) rfl
        case h22 =>
          refine OpIs.plain (by kernel_rfl) _ rfl rfl fun vs ev W hf hI hd => ?_
          have e0 : ev (.tmp 54) = .pointer (some ⟨b, o + i * 3 + 2, none⟩) := (hf.of 21 _ 54 rfl rfl rfl (of_decide_eq_true rfl)).trans (hd 21 (by kernel_rfl))
          have d0 := (HCELL.out W hI.1.below).2.2.1
          clear hK
          exact gives_pure (v := .slice pa x.p.length pc) hI (by simp [gives, go_sem, e0, d0]) rfl
        case h23 =>
          refine OpIs.plain (by kernel_rfl) _ rfl rfl fun vs ev W hf hI hd => ?_
          obtain ⟨g, h1, h2⟩ := hd 16 (by kernel_rfl)
          have e1 : ev (.tmp 49) = .slice (some ⟨g, 0, none⟩) 0 0 := (hf.of 16 _ 49 rfl rfl rfl (of_decide_eq_true rfl)).trans h1
          have e2 : ev (.tmp 55) = .slice pa x.p.length pc := (hf.of 22 _ 55 rfl rfl rfl (of_decide_eq_true rfl)).trans (hd 22 (by kernel_rfl))
          obtain ⟨i3, hi3, hz0, hz1, hz2⟩ := info_parts infoI
          have hsl := (HCELL.out W hI.1.below).2.2.2.2
          obtain ⟨a', c', W', hr, ho, hbl⟩ := copy_ints 37 i3 8 Tryd.underlying37 hi3 hz0 hz1 hz2 h2 hsl (HFEW.out.2) (Nat.le_trans hwn hI.2)
          clear hK
          refine gives_mono (R := fun v w' => v = .slice a' x.p.length c' ∧ w' = W') (by unfold gives; simp [execOp, resolve, invoke, builtin, e1, e2, hr, Result.andThen]) ?_
          rintro _ _ ⟨rfl, rfl⟩
          exact ⟨ho, ⟨hI.1.call hbl, Nat.le_trans hI.2 hbl.size⟩, fun j u _ h => h.below hbl⟩
        case h24 =>
          refine OpIs.plain (by kernel_rfl) _ rfl rfl fun vs ev W hf hI hd => ?_
          have h1 := hd 15 (by kernel_rfl)
          have h2 := hd 23 (by kernel_rfl)
          have e0 : ev (.tmp 40) = .int .i64 x.op := (hf.of 7 _ 40 rfl rfl rfl (of_decide_eq_true rfl)).trans (hd 7 (by kernel_rfl))
          have e1 : ev (.tmp 48) = vs 15 := hf.of 15 _ 48 rfl rfl rfl (of_decide_eq_true rfl)
          have e2 : ev (.tmp 56) = vs 23 := hf.of 23 _ 56 rfl rfl rfl (of_decide_eq_true rfl)
          obtain ⟨a1, c1, q1⟩ := own_slv h1
          obtain ⟨a2, c2, q2⟩ := own_slv h2
          rw [q1] at e1 h1
          rw [q2] at e2 h2
          clear hK
          exact gives_pure (v := .agg #[.int .i64 x.op, .slice a1 x.ins.length c1, .slice a2 x.p.length c2]) hI (by simp [gives, go_sem, e0, e1, e2]) ⟨_, _, rfl, h1, h2⟩
        case h25 =>
          refine OpIs.plain (by kernel_rfl) _ rfl rfl fun vs ev W hf hI hd => ?_
          obtain ⟨s, t, h1, h2, h3⟩ := hd 24 (by kernel_rfl)
          have e0 := (hf.of 24 _ 57 rfl rfl rfl (of_decide_eq_true rfl)).trans h1
          obtain ⟨a1, c1, rfl⟩ := own_slv h2
          obtain ⟨a2, c2, rfl⟩ := own_slv h3
          clear hK
          refine gives_mono (R := fun v w' => v = .slice (some ⟨W.heap.size, 0, none⟩) 1 1 ∧ w' = W.alloc (.cells #[.int .i64 x.op, .slice a1 x.ins.length c1, .slice a2 x.p.length c2] 39)) (by simp [gives, go_sem, e0]) ?_
          rintro _ _ ⟨rfl, rfl⟩
          have hb := below_alloc W (.cells #[.int .i64 x.op, .slice a1 x.ins.length c1, .slice a2 x.p.length c2] 39)
          exact ⟨⟨_, _, _, rfl, hI.2, alloc_at W _, h2.below hb, h3.below hb⟩, ⟨hI.1.call hb, Nat.le_trans hI.2 hb.size⟩, fun j u _ h => h.below hb⟩
        case h26 =>
          refine OpIs.plain (by kernel_rfl) _ rfl rfl fun vs ev W hf hI hd => ?_
          obtain ⟨g, s, t, h1, h2, h3, h4, h5⟩ := hd 25 (by kernel_rfl)
          have e0 : ev (.tmp 34) = wv := (hf.of 1 _ 34 rfl rfl rfl (of_decide_eq_true rfl)).trans (hd 1 (by kernel_rfl))
          have e1 := (hf.of 25 _ 58 rfl rfl rfl (of_decide_eq_true rfl)).trans h1
          obtain ⟨i3, hi3, hz0, hz1, hz2⟩ := info_parts infoN
          have hown := hI.1.own
          rw [HLN.out] at hown
          have hs1 : s.oneCell' = true := by obtain ⟨_, _, rfl⟩ := own_slv h4; rfl
          have ht1 : t.oneCell' = true := by obtain ⟨_, _, rfl⟩ := own_slv h5; rfl
          obtain ⟨a', c', W', hr, ho, hold, hg⟩ := app_keep (P := Tryd.prog) 22 39 i3 (.agg #[.int .i64 0, .slice none 0 0, .slice none 0 0]) 3 56 Tryd.underlying22 hi3 hz0 hz1 hz2 rfl (by decide) wv i cells hown ⟨g, 0, none⟩ 1 1 [.int .i64 x.op, s, t] rfl (news_three h3) (by
            intro u hu
            simp at hu
            rcases hu with rfl | rfl | rfl
            · rfl
            · exact hs1
            · exact ht1) (by decide) HMM.out.1 HMM.out.2 (Nat.le_trans hwn hI.2)
          have hold' : W'.ownsRow (w.heap.size + 1) 39 3 wv (nds.take i).length cells := by rw [HLN.out]; exact hold
          have hlt : ∀ k, wv.ownBlock = some k → k < n2 := HWV.out
          obtain ⟨wa, wc, hwv⟩ := HWS.out
          have hint : ∀ (v : Value) (n : Nat) (xs : List Value), W.ownsRow (w.heap.size + 1) 3 1 v n xs → W'.ownsRow (w.heap.size + 1) 3 1 v n xs := fun v n xs hv => hI.1.ints hg hv
          clear hK
          refine gives_mono (R := fun v w' => v = .slice (some ⟨a', 0, none⟩) (i + 1) c' ∧ w' = W') (by unfold gives; rw [hwv] at hr e0; simp [execOp, resolve, invoke, builtin, e0, e1, hr, Result.andThen]) ?_
          rintro _ _ ⟨rfl, rfl⟩
          refine ⟨⟨a', c', s, t, rfl, ho, hint _ _ _ h4, hint _ _ _ h5⟩, ⟨hI.1.app hg hold', Nat.le_trans hI.2 hg.size⟩, fun j u hj h => h.keep hint (fun g cs hg2 hgb => ?_) fun e => absurd e hj⟩
          exact (hg.block g (Array.getElem?_eq_some_iff.1 hgb).1 fun e => by have := hlt g e.symm; omega).trans hgb
        case h27 =>
          refine OpIs.plain (by kernel_rfl) _ rfl rfl fun vs ev W hf hI hd => ?_
          have e0 : ev (.tmp 5) = .pointer (some ⟨H, 0, none⟩) := hf.off 5 rfl
          clear hK
          exact gives_pure (v := .pointer (some ⟨H, 0, none⟩)) hI (by simp [gives, go_sem, e0]) rfl
      case hlast =>
        intro vs W hI hT
        obtain ⟨g, c, s, t, h1, h2, h3, h4⟩ := hT 26 (by decide)
        have h5 := hT 27 (by decide)
        refine last_plain (by kernel_rfl) rfl fun F ev hF hf => ?_
        have e1 := (hf.of 26 _ 59 rfl rfl rfl (of_decide_eq_true rfl)).trans h1
        have e2 := (hf.of 27 _ 60 rfl rfl rfl (of_decide_eq_true rfl)).trans h5
        have q0 := hI.1.box.cell 0 rfl
        have f0 := hI.1.box.frozen 0
        refine gives_mono (R := fun v w' => v = undef ∧ w' = W.setCell ⟨H, 0, none⟩ (.slice (some ⟨g, 0, none⟩) (i + 1) c)) (by simp [gives, go_sem, e1, e2, q0, f0]) ?_
        rintro _ _ ⟨rfl, rfl⟩
        subst hF
        have HKD : Hid (KJ w (.slice (some ⟨b, o, none⟩) nds.length gc) out ⟨x0, y0, x1, y1⟩ H (.slice (some ⟨g, 0, none⟩) (i + 1) c) (cells ++ [.int .i64 x.op, s, t]) (nds.take (i + 1)) (W.setCell ⟨H, 0, none⟩ (.slice (some ⟨g, 0, none⟩) (i + 1) c))) := by
          have h := hI.1.done (v := .slice (some ⟨g, 0, none⟩) (i + 1) c) (x := x) (s := s) (t := t) (by rw [HLN.out]; exact h2) h3 h4
          have e : nds.take (i + 1) = nds.take i ++ [x] := by rw [List.take_succ_eq_append_getElem hil, HX.out]; simp [hil]
          rw [e]
          exact h
        simp [fr, Act.put, h1]
        clear hT hf h1 h2 h3 h4 h5 e1 e2 q0 f0 hI
        generalize vs 0 = v0 at *
        generalize vs 1 = v1 at *
        generalize vs 2 = v2 at *
        generalize vs 3 = v3 at *
        generalize vs 4 = v4 at *
        generalize vs 5 = v5 at *
        generalize vs 6 = v6 at *
        generalize vs 7 = v7 at *
        generalize vs 8 = v8 at *
        generalize vs 9 = v9 at *
        generalize vs 10 = v10 at *
        generalize vs 11 = v11 at *
        generalize vs 12 = v12 at *
        generalize vs 13 = v13 at *
        generalize vs 14 = v14 at *
        generalize vs 15 = v15 at *
        generalize vs 16 = v16 at *
        generalize vs 17 = v17 at *
        generalize vs 18 = v18 at *
        generalize vs 19 = v19 at *
        generalize vs 20 = v20 at *
        generalize vs 21 = v21 at *
        generalize vs 22 = v22 at *
        generalize vs 23 = v23 at *
        generalize vs 24 = v24 at *
        generalize vs 25 = v25 at *
        refine hK _ _ ?_
        clear hK
        go_wp2_with fail
        go_roundw
        case rel => exact ⟨i + 1, _, _, by omega, by go_num, HKD.out⟩
        case measure => simp [intOf]; omega
    · rename World => wC
      have ei : i = nds.length := by omega
      subst ei
      rw [List.take_length] at hr
      have HB0 : Hid (BI w wC (.slice ga nds.length gc) wv out H wC) := ⟨hr.gb, hr.box, Below.refl _ _, hr.gb.lt, hr.box.lt⟩
      have HGR : Hid (∀ W, BI w wC (.slice ga nds.length gc) wv out H W → Below w.heap.size w W ∧ Gr w.heap.size W (.slice ga nds.length gc) nds ∧ w.heap.size ≤ W.heap.size ∧ Gr wC.heap.size W wv nds ∧ wC.heap.size ≤ W.heap.size) := fun W hW => by
        have hb := hr.below.trans (hW.2.2.1.mono hr.below.size)
        exact ⟨hb, HG.out.1.below hb (Nat.le_refl _), hb.size, (hr.inn.gr hr.own HG.out.2.1).below hW.2.2.1 (Nat.le_refl _), hW.2.2.1.size⟩
      have g0 := hr.gb.cell 0 rfl
      have g1 := hr.gb.cell 1 rfl
      obtain ⟨c0, c1, c2, c3⟩ := box4 hr.rbox
      clear hr
      go_wp2_with fail
      refine (all14_c w.heap.size _ nds out ⟨x0, y0, x1, y1⟩ wC HGD.out (HGR.out wC HB0.out).2.1 (HGR.out wC HB0.out).2.2.1 HW.out).mono ?_; rintro e w3 ⟨O, hO, rfl, hbO, hb3⟩
      obtain ⟨st, hst⟩ : ∃ st, st = allN nds ⟨x0, y0, x1, y1⟩ out := ⟨_, rfl⟩
      rw [← hst] at hbO ⊢
      clear hst
      obtain ⟨f, s0, s1, s2, s3⟩ := st
      obtain ⟨n, hn⟩ : ∃ n, n = nds.length := ⟨_, rfl⟩
      have H3' : Hid (BI w wC (.slice ga nds.length gc) wv out H (w3.alloc (.cells (cs4 s0 s1 s2 s3) 26)) ∧ Box (w3.alloc (.cells (cs4 s0 s1 s2 s3) 26)) O (rcs (rl nds.length f)) ∧ wC.heap.size ≤ O) := ⟨(HB0.out.call hb3).call (below_new _ _), hbO.call (below_new _ _), hO⟩
      have HLN : Hid ((rl nds.length f).length = nds.length) := (by simp [rl] : (rl nds.length f).length = nds.length)
      clear g0 g1 c0 c1 c2 c3 hbO hb3 hO hn
      go_wp2_with fail
      generalize (w3.alloc (.cells (cs4 s0 s1 s2 s3) 26)) = W3 at *
      have H3 : Hid (BI w wC (.slice ga nds.length gc) wv out H W3 ∧ (∃ rs, rs.length = nds.length ∧ Box W3 O (rcs rs)) ∧ wC.heap.size ≤ O) := ⟨H3'.out.1, ⟨_, HLN.out, H3'.out.2.1⟩, H3'.out.2.2⟩
      clear H3'
      go_loopw [9] (fun iv W => ∃ i : Nat, i ≤ nds.length ∧ iv = .int .i64 i ∧ BI w wC (.slice ga nds.length gc) wv out H W ∧ ∃ rs, rs.length = nds.length ∧ Box W O (rcs rs)) (fun iv _ => nds.length - (intOf iv).toNat)
      case atStart => exact ⟨0, Nat.zero_le _, rfl, H3.out.1, H3.out.2.1⟩
      case round =>
        obtain ⟨i, hi3, rfl, hbi, rs, hrs, hbx⟩ := hrel
        have hCO := H3.out.2.2
        clear H3
        by_cases hil3 : i < nds.length
        · have HRS : Hid (rs.length = nds.length) := hrs
          have hi0 : (0 : Int) ≤ (i : Int) := by omega
          have hi1 : (i : Int) < (nds.length : Int) := by omega
          have H7 : Hid (BI w wC (.slice ga nds.length gc) wv out H wr ∧ Box wr O (rcs rs)) := ⟨hbi, hbx⟩
          clear hbi hbx hrs
          go_wp2_with fail
          refine (of14_c 9 9 10 10 wr).mono ?_; rintro e w5 ⟨rfl, hb5⟩
          have H8 : Hid (BI w wC (.slice ga nds.length gc) wv out H w5 ∧ Box w5 O (rcs rs)) := ⟨H7.out.1.call hb5, H7.out.2.call hb5⟩
          obtain ⟨q0, q1, q2, q3⟩ := rbox_get H8.out.2 (List.getElem?_eq_getElem (by rw [HRS.out]; exact hil3))
          have f0 := H8.out.2.frozen (i * 4)
          have f1 := H8.out.2.frozen (i * 4 + 1)
          have f2 := H8.out.2.frozen (i * 4 + 2)
          have f3 := H8.out.2.frozen (i * 4 + 3)
          have HE : Hid (BI w wC (.slice ga nds.length gc) wv out H ((((w5.setCell ⟨O, i * 4, none⟩ (.int .i64 9)).setCell ⟨O, i * 4 + 1, none⟩ (.int .i64 9)).setCell ⟨O, i * 4 + 2, none⟩ (.int .i64 10)).setCell ⟨O, i * 4 + 3, none⟩ (.int .i64 10)) ∧ Box ((((w5.setCell ⟨O, i * 4, none⟩ (.int .i64 9)).setCell ⟨O, i * 4 + 1, none⟩ (.int .i64 9)).setCell ⟨O, i * 4 + 2, none⟩ (.int .i64 10)).setCell ⟨O, i * 4 + 3, none⟩ (.int .i64 10)) O (rcs (rs.set i ⟨9, 9, 10, 10⟩)) ∧ (rs.set i (⟨9, 9, 10, 10⟩ : Rc)).length = nds.length) := ⟨(((H8.out.1.set hCO _).set hCO _).set hCO _).set hCO _, rbox_set H8.out.2 i ⟨9, 9, 10, 10⟩, by rw [List.length_set]; exact HRS.out⟩
          clear hb5 H7 H8
          go_wp2_with fail
          go_roundw
          case rel => exact ⟨i + 1, by omega, by go_num, HE.out.1, _, HE.out.2.2, HE.out.2.1⟩
          case measure => simp [intOf]; omega
        · have ei : i = nds.length := by omega
          subst ei
          rename World => w8
          have H8 : Hid (BI w wC (.slice ga nds.length gc) wv out H w8) := hbi
          have g0 := hbi.1.cell 0 rfl
          have g1 := hbi.1.cell 1 rfl
          have h0 := hbi.2.1.cell 0 rfl
          have h1 := hbi.2.1.cell 1 rfl
          clear hbi hbx hrs
          go_wp2_with fail
          refine (same_c _ _ _ _ nds out w8 (by omega) (HGR.out w8 H8.out).2.1 (HGR.out w8 H8.out).2.2.1 (HGR.out w8 H8.out).2.2.2.1 (HGR.out w8 H8.out).2.2.2.2).mono ?_; rintro e w9 ⟨rfl, hb9⟩
          have HE : Hid (Below w.heap.size w w9) := (HGR.out w8 H8.out).1.trans (hb9.mono (HGR.out w8 H8.out).2.2.1)
          clear g0 g1 h0 h1 hb9
          go_wp2_with fail
          go_ret
          exact ⟨rfl, HE.out⟩
/-! ### the law -/
section
open Go.ChangeShapes Go.WideShapes Go.ChangeAt
variable {H : Type} {enc : TypeId × Value → H} {W : World} {base : Nat}
theorem needKeeps.needKeeps_law (W : World) (ht : Tabs W) {v0 v1 : Value} {d0 d1 : DataW H} {p0 p1 : List MemPlace}
    (h0 : DataW.Trod enc Tryd.prog W 0 (fun _ => true) true 24 v0 d0 p0) (h1 : DataW.Trod enc Tryd.prog W 0 (fun _ => true) true 26 v1 d1 p1)
    (k0 : Value.okWide Tryd.prog W .any base 24 v0) (k1 : Value.okWide Tryd.prog W .any base 26 v1) :
    Calls Tryd.prog 5 #[v0, v1] W (TPost W) := by
  obtain ⟨nv, out, nds, rfl, hg, hout⟩ := graph_arg h0 k0
  obtain ⟨ra, rfl⟩ := rect_arg h1 k1
  exact needKeeps_walk nv nds out ra W ht hg
end
end Go.Proofs.YtfjeohnigikmoaaDoor
