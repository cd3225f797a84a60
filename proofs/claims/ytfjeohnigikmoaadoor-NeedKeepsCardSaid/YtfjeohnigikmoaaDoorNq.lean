/- Layer 14: need.Of; rows of rectangles. -/
import Derived.Test.YtfjeohnigikmoaaDoorNp
import Derived.Test.YtfjeohnigikmoaaDoorOu
namespace Go.Proofs.YtfjeohnigikmoaaDoor
open Go.RowKit Go.Bx Go.Od Go.Hp
attribute [local go_sem ↓] Go.wp_at_zero Go.wp_at_succ
set_option linter.unusedVariables false

/-- rows of rectangles, as cells -/
def rcs : List Rc → List Value
  | [] => []
  | r :: rs => .int .i64 r.x0 :: .int .i64 r.y0 :: .int .i64 r.x1 :: .int .i64 r.y1 :: rcs rs
theorem rcs_len : ∀ rs : List Rc, (rcs rs).length = rs.length * 4
  | [] => rfl
  | r :: rs => by simp [rcs, rcs_len rs]; omega
theorem rcs_get : ∀ (rs : List Rc) (i : Nat) (r : Rc), rs[i]? = some r → (rcs rs)[i * 4]? = some (.int .i64 r.x0) ∧ (rcs rs)[i * 4 + 1]? = some (.int .i64 r.y0) ∧ (rcs rs)[i * 4 + 2]? = some (.int .i64 r.x1) ∧ (rcs rs)[i * 4 + 3]? = some (.int .i64 r.y1)
  | [], i, r, h => by simp at h
  | a :: rs, 0, r, h => by simp at h; subst h; exact ⟨rfl, rfl, rfl, rfl⟩
  | a :: rs, i + 1, r, h => by
    have := rcs_get rs i r (by simpa using h)
    rw [show (i + 1) * 4 = i * 4 + 1 + 1 + 1 + 1 by omega, show i * 4 + 1 + 1 + 1 + 1 + 1 = i * 4 + 1 + 1 + 1 + 1 + 1 by rfl, show i * 4 + 1 + 1 + 1 + 1 + 2 = i * 4 + 2 + 1 + 1 + 1 + 1 by omega, show i * 4 + 1 + 1 + 1 + 1 + 3 = i * 4 + 3 + 1 + 1 + 1 + 1 by omega]
    simpa [rcs] using this
theorem rcs_set : ∀ (rs : List Rc) (i : Nat) (r : Rc), (((((rcs rs).set (i * 4) (.int .i64 r.x0)).set (i * 4 + 1) (.int .i64 r.y0)).set (i * 4 + 2) (.int .i64 r.x1)).set (i * 4 + 3) (.int .i64 r.y1)) = rcs (rs.set i r)
  | [], i, r => by simp [rcs]
  | a :: rs, 0, r => rfl
  | a :: rs, i + 1, r => by
    have := rcs_set rs i r
    rw [show (i + 1) * 4 = i * 4 + 1 + 1 + 1 + 1 by omega, show i * 4 + 1 + 1 + 1 + 1 + 2 = i * 4 + 2 + 1 + 1 + 1 + 1 by omega, show i * 4 + 1 + 1 + 1 + 1 + 3 = i * 4 + 3 + 1 + 1 + 1 + 1 by omega]
    simp only [rcs, List.set_cons_succ]
    rw [this]
/-- a rectangle of a row is stored -/
theorem rbox_set {W : World} {O : Nat} {rs : List Rc} (h : Box W O (rcs rs)) (i : Nat) (r : Rc) : Box ((((W.setCell ⟨O, i * 4, none⟩ (.int .i64 r.x0)).setCell ⟨O, i * 4 + 1, none⟩ (.int .i64 r.y0)).setCell ⟨O, i * 4 + 2, none⟩ (.int .i64 r.x1)).setCell ⟨O, i * 4 + 3, none⟩ (.int .i64 r.y1)) O (rcs (rs.set i r)) := by
  rw [← rcs_set]
  exact (((h.self _ _).self _ _).self _ _).self _ _
theorem rbox_get {W : World} {O : Nat} {rs : List Rc} (h : Box W O (rcs rs)) {i : Nat} {r : Rc} (hi : rs[i]? = some r) : W.cell? ⟨O, i * 4, none⟩ = some (.int .i64 r.x0) ∧ W.cell? ⟨O, i * 4 + 1, none⟩ = some (.int .i64 r.y0) ∧ W.cell? ⟨O, i * 4 + 2, none⟩ = some (.int .i64 r.x1) ∧ W.cell? ⟨O, i * 4 + 3, none⟩ = some (.int .i64 r.y1) := by
  obtain ⟨h0, h1, h2, h3⟩ := rcs_get rs i r hi
  exact ⟨h.cell _ h0, h.cell _ h1, h.cell _ h2, h.cell _ h3⟩
theorem rcs_zero (n : Nat) : (madeCells (Value.agg #[.int .i64 0, .int .i64 0, .int .i64 0, .int .i64 0]).cells (n * 4)).toList = rcs (List.replicate n Rc.zero) := by
  have e : rcs (List.replicate n Rc.zero) = List.replicate (n * 4) (.int .i64 0) := by
    induction n with
    | zero => rfl
    | succ n ih =>
      rw [List.replicate_succ, show (n + 1) * 4 = n * 4 + 1 + 1 + 1 + 1 by omega, List.replicate_succ, List.replicate_succ, List.replicate_succ, List.replicate_succ, ← ih]
      rfl
  rw [e]
  apply List.ext_getElem?
  intro j
  by_cases hj : j < n * 4
  · have h4 : j % 4 < 4 := Nat.mod_lt _ (by omega)
    have : ∀ k, k < 4 → ([Value.int .i64 0, .int .i64 0, .int .i64 0, .int .i64 0] : List Value)[k]?.getD default = .int .i64 0 := by
      intro k hk
      match k, hk with
      | 0, _ => rfl
      | 1, _ => rfl
      | 2, _ => rfl
      | 3, _ => rfl
    simp [madeCells, hj, Value.cells]
    exact this _ h4
  · simp [madeCells, hj]
theorem box_own4 {w : World} {B n b : Nat} {e : TypeId} {xs : List Value} (h : w.ownsRow B e 4 (.slice (some ⟨b, 0, none⟩) n n) n xs) : Box w b xs := by
  rcases h.2 with ⟨h, _⟩ | ⟨g, cap, cur, h1, _, hb, _, _, hs, ht⟩
  · cases h
  · cases h1
    refine ⟨e, ?_⟩
    rw [hb]
    have : cur.toList = xs := by rw [← ht, List.take_of_length_le (by simp; omega)]
    subst this
    simp
theorem infoRc : (Tryd.prog.info? 26).map (fun i => (i.zero, i.size, i.bytes)) = some (some (.agg #[.int .i64 0, .int .i64 0, .int .i64 0, .int .i64 0]), 4, 32) := by kernel_rfl
def ofR (nd : Nd) (want : Rc) : Rc := if want.emp then Rc.zero else oneN nd want
def OfPost (w : World) (m : Nat) (r : Rc) (e : Ending) (w' : World) : Prop := ∃ O, w.heap.size ≤ O ∧ e = .returned (.slice (some ⟨O, 0, none⟩) m m) ∧ Box w' O (rcs (List.replicate m r)) ∧ Below w.heap.size w w'
/-- half done -/
def half (m i : Nat) (r : Rc) : List Rc := (List.range m).map fun j => if j < i then r else Rc.zero
theorem half_zero (m : Nat) (r : Rc) : half m 0 r = List.replicate m Rc.zero := by
  apply List.ext_getElem?
  intro j
  by_cases hj : j < m
  · simp [half, hj]
  · simp [half, hj]
theorem half_end (m : Nat) (r : Rc) : half m m r = List.replicate m r := by
  apply List.ext_getElem?
  intro j
  by_cases hj : j < m
  · simp [half, hj]
  · simp [half, hj]
theorem half_set (m i : Nat) (r : Rc) : (half m i r).set i r = half m (i + 1) r := by
  apply List.ext_getElem?
  intro j
  by_cases hj : j < m
  · by_cases e : j = i
    · subst e
      rw [List.getElem?_set_self (by simp [half]; exact hj)]
      simp [half, hj]
    · rw [List.getElem?_set_ne (fun h => e h.symm)]
      simp [half, hj, show (j < i + 1) ↔ j < i by omega]
  · rw [List.getElem?_eq_none (by simp [half]; omega), List.getElem?_eq_none (by simp [half]; omega)]
set_option maxRecDepth 4000 in
set_option maxHeartbeats 3200000 in
theorem needof_c (op : Int) (iv pv : Value) (ins p : List Int) (want : Rc) (w : World) {F : Nat → Prop} (hF : ∀ b, F b → b < w.heap.size) (hp : SlOf RInt 1 F w pv p) (hi : SlOf RInt 1 F w iv ins) (hil : ins.length ≤ 1000) (hok : PaOk ⟨op, ins, p⟩) (hw : RcP want) :
    Calls Tryd.prog 12 #[.agg #[.int .i64 op, iv, pv], rv want] w (OfPost w ins.length (ofR ⟨op, ins, p⟩ want)) := by
  have hi' := hi
  have hp' := hp
  obtain ⟨ia, ic, hiv, hic1, hicm, _⟩ := hi'
  obtain ⟨pa, pc, hpv, _, _⟩ := hp'
  subst hiv hpv
  have HP : Hid (SlOf RInt 1 F w (.slice pa p.length pc) p ∧ (∀ b, F b → b < w.heap.size) ∧ PaOk ⟨op, ins, p⟩ ∧ RcP want) := ⟨hp, hF, hok, hw⟩
  obtain ⟨iR, hiR, hz0, hz1, hz2⟩ := info_parts infoRc
  clear hp hi hF hok hw
  obtain ⟨x0, y0, x1, y1⟩ := want
  have h0 := Box.new w [.int .i64 op, .slice ia ins.length ic, .slice pa p.length pc] 39
  have h1 := Box.new (w.alloc (.cells #[.int .i64 op, .slice ia ins.length ic, .slice pa p.length pc] 39)) (cl4 ⟨x0, y0, x1, y1⟩) 26
  rw [size_alloc] at h1
  have J0 : Hid (Box ((w.alloc (.cells #[.int .i64 op, .slice ia ins.length ic, .slice pa p.length pc] 39)).alloc (.cells (cs4 x0 y0 x1 y1) 26)) w.heap.size [.int .i64 op, .slice ia ins.length ic, .slice pa p.length pc] ∧ Box ((w.alloc (.cells #[.int .i64 op, .slice ia ins.length ic, .slice pa p.length pc] 39)).alloc (.cells (cs4 x0 y0 x1 y1) 26)) (w.heap.size + 1) (cl4 ⟨x0, y0, x1, y1⟩) ∧ Below w.heap.size w ((w.alloc (.cells #[.int .i64 op, .slice ia ins.length ic, .slice pa p.length pc] 39)).alloc (.cells (cs4 x0 y0 x1 y1) 26))) :=
    ⟨h0.alloc _, h1, (below_new w _).alloc (by rw [size_alloc]; omega) _⟩
  clear h0 h1
  go_enter Tryd.func12, Tryd.ntmps12
  go_wp2_with (at_make; refine wpList_make_full _ rfl _ _ 30 rfl (w.heap.size + 2) 26 iR (.agg #[.int .i64 0, .int .i64 0, .int .i64 0, .int .i64 0]) 4 Tryd.underlying30 hiR hz0 hz1 .i64 .i64 _ _ ins.length rfl rfl rfl rfl (by rw [hz2]; omega) (by unfold maxLen; omega) (by simp) ?_; intro w2 hown2 hgrow2; have HO : Hid (w2.ownsRow (w.heap.size + 2) 26 4 (.slice (some ⟨w.heap.size + 1 + 1, 0, none⟩) ins.length ins.length) ins.length (madeCells (Value.agg #[.int .i64 0, .int .i64 0, .int .i64 0, .int .i64 0]).cells (ins.length * 4)).toList ∧ ((w.alloc (.cells #[.int .i64 op, .slice ia ins.length ic, .slice pa p.length pc] 39)).alloc (.cells (cs4 x0 y0 x1 y1) 26)).grownBy w2 none) := ⟨by simpa using hown2, hgrow2⟩; clear hown2 hgrow2; have J2 : Hid (Box w2 w.heap.size [.int .i64 op, .slice ia ins.length ic, .slice pa p.length pc] ∧ Box w2 (w.heap.size + 1) (cl4 ⟨x0, y0, x1, y1⟩) ∧ Box w2 (w.heap.size + 1 + 1) (rcs (half ins.length 0 (oneN ⟨op, ins, p⟩ ⟨x0, y0, x1, y1⟩))) ∧ Below w.heap.size w w2) := ⟨J0.out.1.grown' HO.out.2 (by simp), J0.out.2.1.grown' HO.out.2 (by simp), by rw [half_zero, ← rcs_zero]; exact box_own4 HO.out.1, J0.out.2.2.grown HO.out.2 J0.out.2.2.size (fun k hk => by cases hk)⟩; clear HO; have a0 := J2.out.2.1.cell 0 rfl; have a1 := J2.out.2.1.cell 1 rfl; have a2 := J2.out.2.1.cell 2 rfl; have a3 := J2.out.2.1.cell 3 rfl)
  refine (empty_c x0 y0 x1 y1 w2).mono ?_; rintro e W1 ⟨rfl, hb1⟩
  have J3 : Hid (Box W1 w.heap.size [.int .i64 op, .slice ia ins.length ic, .slice pa p.length pc] ∧ Box W1 (w.heap.size + 1) (cl4 ⟨x0, y0, x1, y1⟩) ∧ Box W1 (w.heap.size + 1 + 1) (rcs (half ins.length 0 (oneN ⟨op, ins, p⟩ ⟨x0, y0, x1, y1⟩))) ∧ Below w.heap.size w W1) := ⟨J2.out.1.call hb1, J2.out.2.1.call hb1, J2.out.2.2.1.call hb1, J2.out.2.2.2.trans (hb1.mono J2.out.2.2.2.size)⟩
  clear hb1 J0 J2 a0 a1 a2 a3
  cases he : Rc.emp ⟨x0, y0, x1, y1⟩ with
  | true =>
    have HE : Hid (OfPost w ins.length (ofR ⟨op, ins, p⟩ ⟨x0, y0, x1, y1⟩) (.returned (.slice (some ⟨w.heap.size + 1 + 1, 0, none⟩) ins.length ins.length)) W1) := by
      refine ⟨_, by omega, rfl, ?_, J3.out.2.2.2⟩
      have : ofR ⟨op, ins, p⟩ ⟨x0, y0, x1, y1⟩ = Rc.zero := by unfold ofR; rw [he]; rfl
      rw [this, ← half_zero _ (oneN ⟨op, ins, p⟩ ⟨x0, y0, x1, y1⟩)]
      exact J3.out.2.2.1
    clear he
    go_wp2_with fail
    go_ret
    exact HE.out
  | false =>
    have HR : Hid (ofR ⟨op, ins, p⟩ ⟨x0, y0, x1, y1⟩ = oneN ⟨op, ins, p⟩ ⟨x0, y0, x1, y1⟩) := by
      have : ofR ⟨op, ins, p⟩ ⟨x0, y0, x1, y1⟩ = oneN ⟨op, ins, p⟩ ⟨x0, y0, x1, y1⟩ := by unfold ofR; rw [he]; rfl
      exact this
    clear he
    go_wp2_with fail
    go_loopw [16] (fun jv wr => ∃ j : Nat, j ≤ ins.length ∧ jv = .int .i64 j ∧ Box wr w.heap.size [.int .i64 op, .slice ia ins.length ic, .slice pa p.length pc] ∧ Box wr (w.heap.size + 1) (cl4 ⟨x0, y0, x1, y1⟩) ∧ Box wr (w.heap.size + 1 + 1) (rcs (half ins.length j (oneN ⟨op, ins, p⟩ ⟨x0, y0, x1, y1⟩))) ∧ Below w.heap.size w wr) (fun jv _ => ins.length - (intOf jv).toNat)
    case atStart => exact ⟨0, Nat.zero_le _, rfl, J3.out⟩
    case round =>
      obtain ⟨j, hj, rfl, hr⟩ := hrel
      have HRR : Hid (Box wr w.heap.size [.int .i64 op, .slice ia ins.length ic, .slice pa p.length pc] ∧ Box wr (w.heap.size + 1) (cl4 ⟨x0, y0, x1, y1⟩) ∧ Box wr (w.heap.size + 1 + 1) (rcs (half ins.length j (oneN ⟨op, ins, p⟩ ⟨x0, y0, x1, y1⟩))) ∧ Below w.heap.size w wr) := hr
      clear J3 hr
      by_cases hjl : j < ins.length
      · have a0 := HRR.out.2.1.cell 0 rfl
        have a1 := HRR.out.2.1.cell 1 rfl
        have a2 := HRR.out.2.1.cell 2 rfl
        have a3 := HRR.out.2.1.cell 3 rfl
        have n0 := HRR.out.1.cell 0 rfl
        have n1 := HRR.out.1.cell 1 rfl
        have n2 := HRR.out.1.cell 2 rfl
        have hj0 : (0 : Int) ≤ (j : Int) := by omega
        have hj1 : (j : Int) < (ins.length : Int) := by omega
        go_wp2_with fail
        refine (needone_c op (.slice ia ins.length ic) (.slice pa p.length pc) ins p ⟨x0, y0, x1, y1⟩ wr (fun b hb => Nat.lt_of_lt_of_le (HP.out.2.1 b hb) HRR.out.2.2.2.size) (HP.out.1.same RInt.ok (Same.of_below HRR.out.2.2.2 HP.out.2.1)) ⟨_, _, _, rfl⟩ HP.out.2.2.1 HP.out.2.2.2).mono ?_; rintro e W2 ⟨rfl, hb2⟩
        have H2 : Hid (Box W2 w.heap.size [.int .i64 op, .slice ia ins.length ic, .slice pa p.length pc] ∧ Box W2 (w.heap.size + 1) (cl4 ⟨x0, y0, x1, y1⟩) ∧ Box W2 (w.heap.size + 1 + 1) (rcs (half ins.length j (oneN ⟨op, ins, p⟩ ⟨x0, y0, x1, y1⟩))) ∧ Below w.heap.size w W2) := ⟨HRR.out.1.call hb2, HRR.out.2.1.call hb2, HRR.out.2.2.1.call hb2, HRR.out.2.2.2.trans (hb2.mono HRR.out.2.2.2.size)⟩
        clear hb2 a0 a1 a2 a3 n0 n1 n2 HRR
        have hz : (half ins.length j (oneN ⟨op, ins, p⟩ ⟨x0, y0, x1, y1⟩))[j]? = some Rc.zero := by simp [half, hjl]
        obtain ⟨o0, o1, o2, o3⟩ := rbox_get H2.out.2.2.1 hz
        have f0 := H2.out.2.2.1.frozen (j * 4)
        have f1 := H2.out.2.2.1.frozen (j * 4 + 1)
        have f2 := H2.out.2.2.1.frozen (j * 4 + 2)
        have f3 := H2.out.2.2.1.frozen (j * 4 + 3)
        obtain ⟨q, hq⟩ : ∃ q, q = oneN ⟨op, ins, p⟩ ⟨x0, y0, x1, y1⟩ := ⟨_, rfl⟩
        have HQ : Hid (q = oneN ⟨op, ins, p⟩ ⟨x0, y0, x1, y1⟩) := hq
        rw [← hq] at H2 ⊢
        have H3 : Hid (Box ((((W2.setCell ⟨w.heap.size + 1 + 1, j * 4, none⟩ (.int .i64 q.x0)).setCell ⟨w.heap.size + 1 + 1, j * 4 + 1, none⟩ (.int .i64 q.y0)).setCell ⟨w.heap.size + 1 + 1, j * 4 + 2, none⟩ (.int .i64 q.x1)).setCell ⟨w.heap.size + 1 + 1, j * 4 + 3, none⟩ (.int .i64 q.y1)) w.heap.size [.int .i64 op, .slice ia ins.length ic, .slice pa p.length pc] ∧ Box ((((W2.setCell ⟨w.heap.size + 1 + 1, j * 4, none⟩ (.int .i64 q.x0)).setCell ⟨w.heap.size + 1 + 1, j * 4 + 1, none⟩ (.int .i64 q.y0)).setCell ⟨w.heap.size + 1 + 1, j * 4 + 2, none⟩ (.int .i64 q.x1)).setCell ⟨w.heap.size + 1 + 1, j * 4 + 3, none⟩ (.int .i64 q.y1)) (w.heap.size + 1) (cl4 ⟨x0, y0, x1, y1⟩) ∧
            Box ((((W2.setCell ⟨w.heap.size + 1 + 1, j * 4, none⟩ (.int .i64 q.x0)).setCell ⟨w.heap.size + 1 + 1, j * 4 + 1, none⟩ (.int .i64 q.y0)).setCell ⟨w.heap.size + 1 + 1, j * 4 + 2, none⟩ (.int .i64 q.x1)).setCell ⟨w.heap.size + 1 + 1, j * 4 + 3, none⟩ (.int .i64 q.y1)) (w.heap.size + 1 + 1) (rcs (half ins.length (j + 1) q)) ∧ Below w.heap.size w ((((W2.setCell ⟨w.heap.size + 1 + 1, j * 4, none⟩ (.int .i64 q.x0)).setCell ⟨w.heap.size + 1 + 1, j * 4 + 1, none⟩ (.int .i64 q.y0)).setCell ⟨w.heap.size + 1 + 1, j * 4 + 2, none⟩ (.int .i64 q.x1)).setCell ⟨w.heap.size + 1 + 1, j * 4 + 3, none⟩ (.int .i64 q.y1))) := by
          refine ⟨(((H2.out.1.set (by simp; omega) _).set (by simp; omega) _).set (by simp; omega) _).set (by simp; omega) _, (((H2.out.2.1.set (by simp) _).set (by simp) _).set (by simp) _).set (by simp) _, ?_, (((H2.out.2.2.2.setCell (by simp; omega) _).setCell (by simp; omega) _).setCell (by simp; omega) _).setCell (by simp; omega) _⟩
          rw [← half_set]
          exact rbox_set H2.out.2.2.1 j q
        clear hq hz H2
        go_wp2_with fail
        go_roundw
        case rel => exact ⟨j + 1, by omega, by go_num, by rw [← HQ.out]; exact H3.out⟩
        case measure => simp [intOf]; omega
      · have ej : j = ins.length := by omega
        subst ej
        have HE : Hid (OfPost w ins.length (ofR ⟨op, ins, p⟩ ⟨x0, y0, x1, y1⟩) (.returned (.slice (some ⟨w.heap.size + 1 + 1, 0, none⟩) ins.length ins.length)) wr) := by
          refine ⟨_, by omega, rfl, ?_, HRR.out.2.2.2⟩
          rw [HR.out, ← half_end]
          exact HRR.out.2.2.1
        go_wp2_with fail
        go_ret
        exact HE.out
end Go.Proofs.YtfjeohnigikmoaaDoor
