/- Texts joined: XEq. -/
import Derived.Test.YtgodhpampaleeaaDoorEm
import Derived.Test.YtgodhpampaleeaaDoorEk
import Derived.Test.YtgodhpampaleeaaDoorAc
import Derived.Deep.AppendLies
set_option maxRecDepth 4000
/- Rows of structs of whatever size: laid flat; a row of one's own read; an append to an empty literal. -/
namespace Go.Proofs.YtgodhpampaleeaaDoor
open Go.RowKit Go.Bx Go.Od Go.Hp
set_option linter.unusedVariables false

theorem flat_len {sz : Nat} : ∀ css : List (List Value), (∀ cs ∈ css, cs.length = sz) → css.flatten.length = css.length * sz
  | [], _ => by simp
  | c :: css, h => by
    rw [List.flatten_cons, List.length_append, flat_len css (fun q hq => h q (by simp [hq])), h c (by simp), List.length_cons, Nat.add_mul, Nat.one_mul]
    omega
theorem flat_at {sz : Nat} : ∀ (css : List (List Value)), (∀ cs ∈ css, cs.length = sz) → ∀ (i : Nat) (cs : List Value), css[i]? = some cs → (css.flatten.drop (i * sz)).take sz = cs
  | [], _, i, cs, h => by simp at h
  | c :: css, hl, 0, cs, h => by
    simp at h
    subst h
    rw [List.flatten_cons, Nat.zero_mul, List.drop_zero, ← hl c (by simp), List.take_left']
    rfl
  | c :: css, hl, i + 1, cs, h => by
    have hc := hl c (by simp)
    rw [List.flatten_cons, show (i + 1) * sz = c.length + i * sz by rw [hc, Nat.add_mul, Nat.one_mul]; omega, List.drop_append]
    have e : List.drop (c.length + i * sz) c = [] := List.drop_eq_nil_of_le (by omega)
    rw [e, List.nil_append, Nat.add_sub_cancel_left]
    exact flat_at css (fun q hq => hl q (by simp [hq])) i cs (by simpa using h)
/-- a slice, laid flat -/
theorem sl_flat {α : Type} {E : Rep α} {sz : Nat} {F : Nat → Prop} {w : World} {a : Option Addr} {n c : Nat} {xs : List α} (h : SlOf E sz F w (.slice a n c) xs) :
    ∃ cells : List Value, n = xs.length ∧ cells.length = n * sz ∧ (∀ b, a = some b → ∀ j u, cells[j]? = some u → w.cell? (b.add j) = some u) ∧ (∀ i x, xs[i]? = some x → E F w ((cells.drop (i * sz)).take sz) x) ∧ (a = none → n = 0) := by
  obtain ⟨a', cap, hv, h1, h2, h3⟩ := h
  simp only [Value.slice.injEq] at hv
  obtain ⟨rfl, rfl, rfl⟩ := hv
  rcases h3 with h3 | ⟨b, o, rfl, hF, h3⟩
  · subst h3
    exact ⟨[], rfl, by simp, fun _ _ j u hu => by simp at hu, fun i x hx => by simp at hx, fun _ => rfl⟩
  · obtain ⟨css, hcl, hcs⟩ := list_of (p := fun i cs => ∃ x, xs[i]? = some x ∧ cs.length = sz ∧ LiesAt w b (o + i * sz) cs ∧ E F w cs x) xs.length (fun i hi => by
      obtain ⟨cs, k1, k2, k3⟩ := h3 i xs[i] (List.getElem?_eq_getElem hi)
      exact ⟨cs, xs[i], List.getElem?_eq_getElem hi, k1, k2, k3⟩)
    have hall : ∀ cs ∈ css, cs.length = sz := fun cs hm => by
      obtain ⟨i, hi⟩ := List.getElem?_of_mem hm
      obtain ⟨_, _, k, _⟩ := hcs i cs hi
      exact k
    refine ⟨css.flatten, rfl, by rw [flat_len css hall, hcl], fun b' hb j u hu => ?_, fun i x hx => ?_, fun h => by cases h⟩
    · cases hb
      rw [Go.WideShapes.add_plain]
      have hj : j < css.flatten.length := (List.getElem?_eq_some_iff.1 hu).1
      rw [flat_len css hall] at hj
      have hsz : 0 < sz := by
        rcases Nat.eq_zero_or_pos sz with e | e
        · rw [e] at hj; omega
        · exact e
      have hi : j / sz < css.length := Nat.div_lt_of_lt_mul (by rw [Nat.mul_comm]; exact hj)
      obtain ⟨x, _, k1, k2, _⟩ := hcs (j / sz) css[j / sz] (List.getElem?_eq_getElem hi)
      have hf := flat_at css hall (j / sz) css[j / sz] (List.getElem?_eq_getElem hi)
      have hm : j % sz < sz := Nat.mod_lt _ hsz
      have hd : j / sz * sz + j % sz = j := by rw [Nat.mul_comm]; exact Nat.div_add_mod j sz
      have hu' : (css[j / sz])[j % sz]? = some u := by
        rw [← hf, List.getElem?_take, if_pos hm, List.getElem?_drop, hd]
        exact hu
      have := k2 (j % sz) u hu'
      rw [show o + j / sz * sz + j % sz = o + j by omega] at this
      exact this
    · have hi : i < css.length := by rw [hcl]; exact (List.getElem?_eq_some_iff.1 hx).1
      obtain ⟨x', k0, _, _, k3⟩ := hcs i css[i] (List.getElem?_eq_getElem hi)
      rw [hx] at k0
      cases k0
      rw [flat_at css hall i css[i] (List.getElem?_eq_getElem hi)]
      exact k3
/-- a row of one's own, read -/
theorem own_read {α : Type} {E : Rep α} {sz : Nat} (hsz : 0 < sz) {w : World} {B n : Nat} {e : TypeId} {v : Value} {cells : List Value} {xs : List α} (h : w.ownsRow B e sz v n cells) (hn : n = xs.length)
    (hE : ∀ i x, xs[i]? = some x → E (· < w.heap.size) w ((cells.drop (i * sz)).take sz) x) : SlOf E sz (· < w.heap.size) w v xs := by
  subst hn
  rcases h.2 with ⟨rfl, h0⟩ | ⟨g, cap, cur, rfl, h2, h3, h4, h5, h6, h7⟩
  · exact ⟨none, 0, by rw [h0], by omega, by decide, .inl (List.eq_nil_of_length_eq_zero h0)⟩
  · refine ⟨_, cap, rfl, h4, h5, .inr ⟨g, 0, rfl, (Array.getElem?_eq_some_iff.1 h3).1, fun i x hi => ?_⟩⟩
    have hx : Box w g cur.toList := ⟨e, by simpa using h3⟩
    have hil : i < xs.length := (List.getElem?_eq_some_iff.1 hi).1
    have hlen : (i + 1) * sz ≤ cells.length := by rw [h.1]; exact Nat.mul_le_mul_right _ hil
    refine ⟨(cells.drop (i * sz)).take sz, ?_, fun j u hu => ?_, hE i x hi⟩
    · rw [List.length_take, List.length_drop]
      rw [Nat.add_mul, Nat.one_mul] at hlen
      omega
    · rw [List.getElem?_take] at hu
      split at hu
      · rw [List.getElem?_drop, ← h7, List.getElem?_take] at hu
        split at hu
        · rw [Nat.zero_add]
          exact hx.cell _ hu
        · cases hu
      · cases hu
theorem ly_one {n : Nat} {F : Nat → Prop} {w : World} {cs : List Value} {l : Ly} (h : RLy n F w cs l) : (∀ u ∈ cs, u.oneCell' = true) ∧ cs.length = 31 := by
  match n, h with
  | n + 1, ⟨pv, fv, bv, kv, h1, _, _, hA, hK⟩ =>
    obtain ⟨_, _, _, rfl⟩ := sl_form hA.2.1
    obtain ⟨_, _, _, rfl⟩ := sl_form hA.2.2.1
    obtain ⟨_, _, _, rfl⟩ := sl_form hA.2.2.2
    obtain ⟨_, _, _, rfl⟩ := sl_form hK
    subst h1
    refine ⟨fun u hu => ?_, rfl⟩
    simp only [List.mem_cons, List.not_mem_nil, or_false] at hu
    rcases hu with rfl | rfl | rfl | rfl | rfl | rfl | rfl | rfl | rfl | rfl | rfl | rfl | rfl | rfl | rfl | rfl | rfl | rfl | rfl | rfl | rfl | rfl | rfl | rfl | rfl | rfl | rfl | rfl | rfl | rfl | rfl <;> rfl
theorem flat_one {n : Nat} {F : Nat → Prop} {w : World} {cells : List Value} {xs : List Ly} (hl : cells.length = xs.length * 31) (h : ∀ i x, xs[i]? = some x → RLy n F w ((cells.drop (i * 31)).take 31) x) : ∀ u ∈ cells, u.oneCell' = true := by
  intro u hu
  obtain ⟨j, hj⟩ := List.getElem?_of_mem hu
  have hjl : j < cells.length := (List.getElem?_eq_some_iff.1 hj).1
  have hi : j / 31 < xs.length := by omega
  have h1 := (ly_one (h (j / 31) xs[j / 31] (List.getElem?_eq_getElem hi))).1
  refine h1 u (List.mem_of_getElem? (i := j % 31) ?_)
  rw [List.getElem?_take, if_pos (Nat.mod_lt _ (by decide)), List.getElem?_drop, show j / 31 * 31 + j % 31 = j by omega]
  exact hj
/-- one more, behind all -/
theorem flat_snoc {n : Nat} {F : Nat → Prop} {w : World} {cells cs : List Value} {xs : List Ly} {x : Ly} (hl : cells.length = xs.length * 31) (h : ∀ i y, xs[i]? = some y → RLy n F w ((cells.drop (i * 31)).take 31) y) (hx : RLy n F w cs x) :
    ∀ i y, (xs ++ [x])[i]? = some y → RLy n F w (((cells ++ cs).drop (i * 31)).take 31) y := by
  intro i y hi
  have hcs := (ly_one hx).2
  by_cases e : i < xs.length
  · rw [List.getElem?_append_left e] at hi
    have e2 : ((cells ++ cs).drop (i * 31)).take 31 = (cells.drop (i * 31)).take 31 := by
      rw [List.drop_append_of_le_length (by omega), List.take_append_of_le_length (by rw [List.length_drop]; omega)]
    rw [e2]
    exact h i y hi
  · have hil := (List.getElem?_eq_some_iff.1 hi).1
    simp at hil
    have e1 : i = xs.length := by omega
    subst e1
    rw [List.getElem?_append_right (Nat.le_refl _)] at hi
    simp at hi
    subst hi
    rw [← hl, List.drop_left', List.take_of_length_le (by omega)]
    · exact hx
    · rfl
/-- 'append' to a row of one's own: the row as it was is one's own still -/
theorem app_kept {P : Program} {w : World} {base : Nat} (t e : TypeId) (i : TypeInfo) (z : Value) (size bytes : Nat) (ht : P.underlying t = some (.slice e)) (hi : P.info? e = some i) (hz : i.zero = some z) (hsize : i.size = size) (hby : i.bytes = bytes) (hzs : z.cells.size = size) (hsz : 0 < size)
    (v : Value) (n : Nat) (xs : List Value) (hown : w.ownsRow base e size v n xs) (ad : Addr) (m c : Nat) (news : List Value) (hl : news.length = m * size) (hnews : ∀ j u, news[j]? = some u → w.cell? (ad.add j) = some u) (h1 : ∀ u ∈ news, u.oneCell' = true)
    (hm : 0 < m) (h63 : n + m ≤ maxLen) (hbytes : (n + m) * bytes ≤ 140737488355328) (hbase : base ≤ w.heap.size) :
    ∃ g cap w', (Builtin.append_ #[t, t] t #[v, .slice (some ad) m c]).run P w = .ok (.slice (some ⟨g, 0, none⟩) (n + m) cap) w' ∧ w'.ownsRow base e size (.slice (some ⟨g, 0, none⟩) (n + m) cap) (n + m) (xs ++ news) ∧ w'.ownsRow base e size v n xs ∧ w.grownBy w' v.ownBlock := by
  rcases hown.2 with ⟨rfl, rfl⟩ | ⟨g, cap, cur, rfl, hB, hb, hnc, hcm, hcs, htk⟩
  · obtain ⟨g, cap, w', hr, h2, h3, _, _⟩ := run_append_lies (P := P) w t t base e i z size bytes ht hi hz hsize hby hzs hsz _ 0 xs hown ad m c news hl hnews h1 hm h63 hbytes hbase _ rfl
    exact ⟨g, cap, w', hr, h2, ⟨hown.1, .inl ⟨rfl, rfl⟩⟩, h3⟩
  · by_cases hroom : n + m ≤ cap
    · obtain ⟨w', hr, h2, h3⟩ := run_append_fits (P := P) w base t t e i size ht hi hsize g n cap xs hown ad m c news hl hnews h1 hroom
      refine ⟨g, cap, w', hr, h2, ⟨hown.1, ?_⟩, h3⟩
      rcases h2.2 with ⟨h, _⟩ | ⟨g', cap', cur', h, hB', hb', hnc', hcm', hcs', htk'⟩
      · cases h
      · cases h
        refine .inr ⟨g, cap, cur', rfl, hB', hb', hnc, hcm', hcs', ?_⟩
        have e1 : (cur'.toList.take ((n + m) * size)).take (n * size) = (xs ++ news).take (n * size) := by rw [htk']
        rw [List.take_take, Nat.min_eq_left (Nat.mul_le_mul_right _ (Nat.le_add_right _ _)), List.take_append_of_le_length (by rw [hown.1]; exact Nat.le_refl _)] at e1
        exact e1.trans (List.take_of_length_le (by rw [hown.1]; exact Nat.le_refl _))
    · obtain ⟨v', w', hr, ho, hg⟩ := run_append_arg_grows (P := P) w t t e i z size bytes ht hi hz hsize hby hzs hsz ⟨g, 0, none⟩ n cap xs hown.1 (fun j u hj => by
        rw [Go.WideShapes.add_plain, Nat.zero_add]
        have hjl : j < xs.length := (List.getElem?_eq_some_iff.1 hj).1
        rw [World.ownsRow.cellAt hown j (by rw [← hown.1]; exact hjl), hj]) ad m c news hl hnews (by omega) h63 hbytes
      obtain ⟨g', c', rfl, hge, _⟩ := World.ownsRow.form ho (by omega)
      refine ⟨g', c', w', hr, ⟨ho.1, ?_⟩, World.ownsRow.kept hown hg (.inr (by simp [Value.ownBlock])), ⟨hg.os, hg.tape, hg.output, hg.size, fun k hk _ => hg.block k hk (by simp)⟩⟩
      rcases ho.2 with hn | ⟨g2, cap2, cur2, hv2, hB2, rest⟩
      · exact .inl hn
      · exact .inr ⟨g2, cap2, cur2, hv2, Nat.le_trans hbase hB2, rest⟩
/-- 'append([]T{}, l...)' -/
theorem app_emptyR {P : Program} {w : World} {B : Nat} (t e : TypeId) (i : TypeInfo) (z : Value) (size bytes : Nat) (ht : P.underlying t = some (.slice e)) (hi : P.info? e = some i) (hz : i.zero = some z) (hsize : i.size = size) (hby : i.bytes = bytes) (hzs : z.cells.size = size) (hs0 : 0 < size)
    {g : Nat} (hv : w.ownsRow B e size (.slice (some ⟨g, 0, none⟩) 0 0) 0 []) (a : Option Addr) (m c : Nat) (news : List Value) (hl : news.length = m * size) (hnews : ∀ b, a = some b → ∀ j u, news[j]? = some u → w.cell? (b.add j) = some u) (h1 : ∀ u ∈ news, u.oneCell' = true)
    (hnone : a = none → m = 0) (h63 : m ≤ maxLen) (hbytes : m * bytes ≤ 140737488355328) (hB : B ≤ w.heap.size) :
    ∃ a' c' w', (Builtin.append_ #[t, t] t #[.slice (some ⟨g, 0, none⟩) 0 0, .slice a m c]).run P w = .ok (.slice a' m c') w' ∧ w'.ownsRow B e size (.slice a' m c') m news ∧ Below w.heap.size w w' := by
  by_cases hm : m = 0
  · subst hm
    have hn : news = [] := List.eq_nil_of_length_eq_zero (by simpa using hl)
    subst hn
    refine ⟨some ⟨g, 0, none⟩, 0, w, ?_, hv, Below.refl _ _⟩
    cases a with
    | none => exact run_append_nothing w t t t e i ht hi _ 0 0 (Nat.le_refl _) _ (Src.ofNil w ht c)
    | some ad => exact run_append_nothing w t t t e i ht hi _ 0 0 (Nat.le_refl _) _ (Src.ofSlice w ht ad 0 c [] (by simp) (by simp) (by simp))
  · obtain ⟨ad, rfl⟩ : ∃ ad, a = some ad := by
      cases a with
      | none => exact absurd (hnone rfl) hm
      | some ad => exact ⟨ad, rfl⟩
    obtain ⟨v', w', hr, ho, hg⟩ := run_append_arg_grows (P := P) w t t e i z size bytes ht hi hz hsize hby hzs hs0 ⟨g, 0, none⟩ 0 0 [] (by simp) (by simp) ad m c news hl (hnews ad rfl) (by omega) (by omega) (by rw [Nat.zero_add]; exact hbytes)
    rw [Nat.zero_add, List.nil_append] at ho
    obtain ⟨g', c', rfl, _, _⟩ := World.ownsRow.form ho (by omega)
    exact ⟨_, c', w', hr, World.ownsRow.mono ho hB, (Below.refl _ w).grown hg (Nat.le_refl _) (fun k hk => by cases hk)⟩
/-! ### plainly: a kid more -/
theorem below_up (r : Rc) (k : Lk) : WiS r (belowR r k) := by
  unfold belowR
  split
  · exact join_l _ _
  · exact WiS.refl _
theorem grp_snoc (n : Nat) (i0 i1 : Int) (k : Lk) (ks : List Ly) (x : Ly) : grpN n (.mk i0 i1 k (ks ++ [x])) = joinR (belowR (grpN n (.mk i0 i1 k ks)) x.look) (resN n x) := by
  unfold grpN Ly.kids Ly.look
  rw [List.foldl_append]
  rfl
theorem grp_more (n : Nat) (i0 i1 : Int) (k : Lk) (ks : List Ly) (x : Ly) : WiS (grpN n (.mk i0 i1 k ks)) (grpN n (.mk i0 i1 k (ks ++ [x]))) ∧ WiS (resN n x) (grpN n (.mk i0 i1 k (ks ++ [x]))) := by
  rw [grp_snoc]
  exact ⟨(below_up _ _).trans (join_l _ _), join_r _ _⟩
end Go.Proofs.YtgodhpampaleeaaDoor
