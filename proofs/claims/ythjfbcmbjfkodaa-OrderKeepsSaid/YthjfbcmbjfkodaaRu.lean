/- Layer 11: the document's Uses. -/
import Derived.Test.YthjfbcmbjfkodaaGa
namespace Go.Proofs.Ythjfbcmbjfkodaa
open Go.RowKit Go.Bx Go.Od Go.Hp
attribute [local go_sem ↓] Go.wp_at_zero Go.wp_at_succ
set_option linter.unusedVariables false

/-- two rows of elements of two types lie in two blocks -/
theorem rows_apart {w : World} {B1 B2 s1 s2 n1 n2 k : Nat} {e1 e2 : TypeId} {v1 v2 : Value} {x1 x2 : List Value} (h1 : w.ownsRow B1 e1 s1 v1 n1 x1) (h2 : w.ownsRow B2 e2 s2 v2 n2 x2) (he : e1 ≠ e2) (hk : v1.ownBlock = some k) : v2.ownBlock ≠ some k := by
  intro hk2
  rcases h1.2 with ⟨rfl, _⟩ | ⟨g1, c1, cur1, rfl, _, b1, _⟩
  · cases hk
  · rcases h2.2 with ⟨rfl, _⟩ | ⟨g2, c2, cur2, rfl, _, b2, _⟩
    · cases hk2
    · simp [Value.ownBlock] at hk hk2
      subst hk hk2
      rw [b1] at b2
      simp at b2
      exact he b2.2
/-- rows of rows that grow -/
structure UU (w : World) (nv : Value) (out : Int) (f : Nat → List Nat) (i : Nat) (ov : Value) (vs : List Value) (wr : World) : Prop where
  gb : Box wr w.heap.size [nv, .int .i64 out]
  own : wr.ownsRow (w.heap.size + 1) 28 1 ov i vs
  inner : ∀ r, r < i → OwnP wr (w.heap.size + 1) (vs.getD r undef) (ofN (f r))
  below : Below w.heap.size w wr
section
variable {w wr w' w8 : World} {nv ov lv : Value} {out : Int} {f : Nat → List Nat} {i : Nat} {vs : List Value} {l : List Nat}
theorem UU.call (h : UU w nv out f i ov vs wr) (hb : Below wr.heap.size wr w') : UU w nv out f i ov vs w' := ⟨h.gb.call hb, owns_below h.own hb (Nat.le_refl _), fun r hr => (h.inner r hr).below hb, h.below.trans (hb.mono h.below.size)⟩
/-- a row that was made behind it all grows -/
theorem UU.app {X k g8 c8 : Nat} {o : Obj} (h : UU w nv out f i ov vs wr) (hX : ∀ r, r < i → ∀ k, (vs.getD r undef).ownBlock = some k → k < X) (hO : ∀ k, ov.ownBlock = some k → k < X) (hwX : w.heap.size < X) (hl : OwnP wr X lv (ofN l))
    (hown : w8.ownsRow X 3 1 (.slice (some ⟨g8, 0, none⟩) (l.length + 1) c8) (l.length + 1) ((ofN l).map (Value.int .i64) ++ [.int .i64 k])) (hg : (wr.alloc o).grownBy w8 lv.ownBlock) :
    UU w nv out f i ov vs w8 ∧ OwnP w8 X (.slice (some ⟨g8, 0, none⟩) (l.length + 1) c8) (ofN (l ++ [k])) := by
  have h' := h.call (below_alloc wr o)
  have hge := row_ge hl
  have kept : ∀ (v : Value) (e : TypeId) (n : Nat) (xs : List Value), (wr.alloc o).ownsRow (w.heap.size + 1) e 1 v n xs → (∀ k, v.ownBlock = some k → k < X) → w8.ownsRow (w.heap.size + 1) e 1 v n xs := fun v e n xs hv hk => World.ownsRow.kept hv hg (by
    cases e1 : v.ownBlock with
    | none => exact .inl rfl
    | some j => exact .inr fun e2 => by have := hk j e1; have := (hge j e2.symm).1; omega)
  refine ⟨⟨h'.gb.grown' hg fun e => by have := (hge _ e).1; omega, kept _ _ _ _ h'.own hO, fun r hr => kept _ _ _ _ (h'.inner r hr) (hX r hr), h'.below.grown hg h'.below.size fun k hk => by have := (hge _ hk).1; omega⟩, ?_⟩
  unfold OwnP
  rw [ofN_app, List.map_append, List.length_append, ofN_len]
  exact hown
/-- the outer row grows by that row -/
theorem UU.push {g8 c8 : Nat} {o : Obj} (h : UU w nv out f i ov vs wr) (hl : OwnP wr (w.heap.size + 1) lv (ofN (f i))) (hown : w8.ownsRow (w.heap.size + 1) 28 1 (.slice (some ⟨g8, 0, none⟩) (i + 1) c8) (i + 1) (vs ++ [lv])) (hg : (wr.alloc o).grownBy w8 ov.ownBlock) :
    UU w nv out f (i + 1) (.slice (some ⟨g8, 0, none⟩) (i + 1) c8) (vs ++ [lv]) w8 := by
  have h' := h.call (below_alloc wr o)
  have hvl : vs.length = i := by have := h.own.1; omega
  have hge : ∀ k, ov.ownBlock = some k → w.heap.size + 1 ≤ k := fun k hk => (World.ownsRow.lt h.own k hk).1
  have kept : ∀ (v : Value) (xs : List Int), OwnP (wr.alloc o) (w.heap.size + 1) v xs → OwnP w8 (w.heap.size + 1) v xs := fun v xs hv => World.ownsRow.kept hv hg (by
    cases e1 : v.ownBlock with
    | none => exact .inl rfl
    | some j => exact .inr fun e2 => rows_apart hv h'.own (by decide) e1 e2.symm)
  refine ⟨h'.gb.grown' hg fun e => by have := hge _ e; omega, hown, fun r hr => ?_, h'.below.grown hg h'.below.size fun k hk => by have := hge _ hk; omega⟩
  by_cases e : r = i
  · subst e
    have : (vs ++ [lv]).getD r undef = lv := by rw [← hvl]; simp
    rw [this]
    exact kept _ _ (hl.alloc o)
  · have : (vs ++ [lv]).getD r undef = vs.getD r undef := by
      simp only [List.getD_eq_getElem?_getD]
      rw [List.getElem?_append_left (by omega)]
    rw [this]
    exact kept _ _ (h'.inner r (by omega))
end
def uk (ins : List (List Int)) (r k : Nat) : List Nat := (List.range k).filter fun q => decide (r ∈ inp ins q)
theorem uk_step (ins : List (List Int)) (r k : Nat) (hr : r < ins.length) : uk ins r (k + 1) = if decide ((r : Int) ∈ ins.getD k []) = true then uk ins r k ++ [k] else uk ins r k := by
  unfold uk
  rw [List.range_succ, List.filter_append]
  have e : (r ∈ inp ins k) ↔ (r : Int) ∈ ins.getD k [] := by rw [inp_mem]; exact ⟨fun h => h.2, fun h => ⟨hr, h⟩⟩
  by_cases h : (r : Int) ∈ ins.getD k []
  · rw [if_pos (decide_eq_true h), List.filter_cons_of_pos (by simpa using e.2 h)]
    rfl
  · rw [if_neg (by simpa using h), List.filter_cons_of_neg (by simpa using fun h' => h (e.1 h'))]
    simp
theorem uk_len (ins : List (List Int)) (r k : Nat) : (uk ins r k).length ≤ k := by
  have := List.length_filter_le (fun q => decide (r ∈ inp ins q)) (List.range k)
  simpa [uk] using this
/-- what the document's Uses leaves -/
def RuPost (w : World) (n : Nat) (f : Nat → List Nat) (e : Ending) (w' : World) : Prop := ∃ a c vs, e = .returned (.slice a n c) ∧ w'.ownsRow w.heap.size 28 1 (.slice a n c) n vs ∧ (∀ r, r < n → OwnP w' w.heap.size (vs.getD r undef) (ofN (f r))) ∧ Below w.heap.size w w'
theorem row_sl {w : World} {B n : Nat} {e : TypeId} {v : Value} {xs : List Value} (h : w.ownsRow B e 1 v n xs) : ∃ a c, v = .slice a n c := by
  rcases h.2 with ⟨rfl, rfl⟩ | ⟨g, c, _, rfl, _⟩
  · exact ⟨none, 0, rfl⟩
  · exact ⟨_, c, rfl⟩
set_option maxRecDepth 4000 in
set_option maxHeartbeats 3200000 in
theorem ruses_c (B : Nat) (nv : Value) (nds : List Nd) (out : Int) (w : World) (hm : nds.length ≤ 999) (hl : ∀ i, i < nds.length → (nds.getD i Nd.none).ins.length ≤ 1000) (hg : Gr B w nv nds) (hB : B ≤ w.heap.size) :
    Calls Try.prog 18 #[.agg #[nv, .int .i64 out]] w (RuPost w nds.length (users (insOf nds))) := by
  obtain ⟨ga, gc, rfl⟩ := hg.isSl
  have hgl := hg.len_le
  obtain ⟨i3, hi3, hz0, hz1, hz2⟩ := info_parts infoI
  obtain ⟨iS, hiS, sz0, sz1, sz2⟩ := info_parts infoS
  obtain ⟨ins, hins⟩ : ∃ ins, ins = insOf nds := ⟨_, rfl⟩
  have HI : Hid (ins = insOf nds ∧ ins.length = nds.length) := ⟨hins, by rw [hins, insOf_len]⟩
  have HG : Hid (Gr B w (.slice ga nds.length gc) nds ∧ ∀ i, i < nds.length → (nds.getD i Nd.none).ins.length ≤ 1000) := ⟨hg, hl⟩
  have H0 : Hid (UU w (.slice ga nds.length gc) out (users ins) 0 (.slice none 0 0) [] (w.alloc (.cells #[.slice ga nds.length gc, .int .i64 out] 24))) := ⟨Box.new w _ _, World.ownsRow_nil _ _ _ _, (fun r hr => by omega), below_alloc _ _⟩
  rw [← hins]
  clear hg hl hins
  go_enter Try.func18, Try.ntmps18
  go_wp2_with fail
  go_loopw [3, 4] (fun ov iv wr => ∃ (i : Nat) (vs : List Value), i ≤ nds.length ∧ iv = .int .i64 i ∧ UU w (.slice ga nds.length gc) out (users ins) i ov vs wr) (fun _ iv _ => nds.length - (intOf iv).toNat)
  case atStart => exact ⟨0, [], Nat.zero_le _, rfl, H0.out⟩
  case round =>
    obtain ⟨i, vs, hi, rfl, hr⟩ := hrel
    clear H0
    obtain ⟨oa, oc, hov⟩ := row_sl hr.own
    subst hov
    by_cases hil : i < nds.length
    · have b0 := hr.gb.cell 0 rfl
      obtain ⟨X, hX⟩ : ∃ X, X = wr.heap.size := ⟨_, rfl⟩
      have H1 : Hid (UU w (.slice ga nds.length gc) out (users ins) i (.slice oa i oc) vs wr ∧ (∀ r, r < i → ∀ k, (vs.getD r undef).ownBlock = some k → k < X) ∧ (∀ k, (Value.slice oa i oc).ownBlock = some k → k < X) ∧ w.heap.size < X) :=
        ⟨hr, fun r hr' k hk => by rw [hX]; exact (row_ge (hr.inner r hr') k hk).2, fun k hk => by rw [hX]; exact (World.ownsRow.lt hr.own k hk).2, by rw [hX]; exact hr.gb.lt⟩
      have HXX : Hid (X ≤ wr.heap.size) := by rw [hX]; exact Nat.le_refl _
      clear hr hX
      go_wp2_with fail
      clear b0
      go_loopw [5, 6] (fun lv kv wr => ∃ k : Nat, k ≤ nds.length ∧ kv = .int .i64 k ∧ UU w (.slice ga nds.length gc) out (users ins) i (.slice oa i oc) vs wr ∧ OwnP wr X lv (ofN (uk ins i k)) ∧ X ≤ wr.heap.size) (fun _ kv _ => nds.length - (intOf kv).toNat)
      case atStart => exact ⟨0, Nat.zero_le _, rfl, H1.out.1, own_nil _ _, HXX.out⟩
      case round =>
        obtain ⟨k, hk, rfl, hr, hlo, hXs⟩ := hrel
        have b0 := hr.gb.cell 0 rfl
        have b1 := hr.gb.cell 1 rfl
        obtain ⟨la, lc', hlv⟩ := own_sl hlo
        obtain ⟨L, hL⟩ : ∃ L, L = uk ins i k := ⟨_, rfl⟩
        rw [← hL] at hlo hlv
        subst hlv
        have hLl : L.length ≤ 999 := by rw [hL]; have := uk_len ins i k; omega
        by_cases hkl : k < nds.length
        · have HS : Hid (uk ins i (k + 1) = if decide ((i : Int) ∈ (nds.getD k Nd.none).ins) = true then L ++ [k] else L) := by
            rw [uk_step ins i k (by rw [HI.out.2]; exact hil), ← hL, HI.out.1, insOf_get]
            exact Eq.refl _
          have HR : Hid (UU w (.slice ga nds.length gc) out (users ins) i (.slice oa i oc) vs wr ∧ OwnP wr X (.slice la L.length lc') (ofN L) ∧ X ≤ wr.heap.size) := ⟨hr, hlo, hXs⟩
          clear hL hr hlo hXs
          go_wp2_with fail
          refine (has_c B _ nds out i k wr hkl (by omega) (HG.out.2 k hkl) (HG.out.1.below HR.out.1.below hB)).mono ?_; rintro e w5 ⟨rfl, hb5⟩
          have HR5 : Hid (UU w (.slice ga nds.length gc) out (users ins) i (.slice oa i oc) vs w5 ∧ OwnP w5 X (.slice la L.length lc') (ofN L) ∧ X ≤ w5.heap.size) := ⟨HR.out.1.call hb5, HR.out.2.1.below hb5, Nat.le_trans HR.out.2.2 hb5.size⟩
          obtain ⟨u, hu⟩ : ∃ u, u = decide ((i : Int) ∈ (nds.getD k Nd.none).ins) := ⟨_, rfl⟩
          rw [← hu] at HS
          rw [← hu]
          clear hu b0 b1 hb5
          cases u with
          | false =>
            have HF : Hid (uk ins i (k + 1) = L) := HS.out.trans (if_neg (by decide))
            clear HS
            go_wp2_with fail
            go_roundw
            case rel => exact ⟨k + 1, by omega, by go_num, HR5.out.1, by rw [HF.out]; exact HR5.out.2.1, HR5.out.2.2⟩
            case measure => simp [intOf]; omega
          | true =>
            have HF : Hid (uk ins i (k + 1) = L ++ [k]) := HS.out.trans (if_pos rfl)
            have HM : Hid (L.length + 1 ≤ maxLen ∧ (L.length + 1) * 8 ≤ 140737488355328) := by constructor <;> (try unfold maxLen) <;> omega
            have hXs := HR5.out.2.2
            clear HS
            go_wp2_with (at_builtin; refine wpList_append_lies _ rfl _ _ 28 rfl X 3 i3 (.int .i64 0) 1 8 Try.underlying28 hi3 hz0 hz1 hz2 rfl (by decide) (.slice la L.length lc') L.length ((ofN L).map (Value.int .i64)) rfl (OwnP.row (ofN_len L) (HR5.out.2.1.alloc (.cells #[.int .i64 k] 3))) _ 1 1 [.int .i64 k] rfl rfl (news_one (by simp)) (by simp [Value.oneCell']) (by decide) HM.out.1 HM.out.2 (by first | omega | (simp; omega)) _ rfl ?_; intro g8 c8 w8 hown8 hgrow8 hat8 hlt8; have HA : Hid ((UU w (.slice ga nds.length gc) out (users ins) i (.slice oa i oc) vs w8 ∧ OwnP w8 X (.slice (some ⟨g8, 0, none⟩) (L.length + 1) c8) (ofN (L ++ [k]))) ∧ w5.heap.size ≤ w8.heap.size) := ⟨HR5.out.1.app H1.out.2.1 H1.out.2.2.1 H1.out.2.2.2 HR5.out.2.1 hown8 hgrow8, Nat.le_trans (Nat.le_succ _) (Nat.le_trans (Nat.le_of_eq (size_alloc _ _).symm) hgrow8.size)⟩; clear hown8 hgrow8 hat8 hlt8)
            go_roundw
            case rel => exact ⟨k + 1, by omega, by go_num, HA.out.1.1, by rw [HF.out]; exact HA.out.1.2, Nat.le_trans hXs HA.out.2⟩
            case measure => simp [intOf]; omega
        · have ek : k = nds.length := by omega
          subst ek
          have HR : Hid (UU w (.slice ga nds.length gc) out (users ins) i (.slice oa i oc) vs wr ∧ OwnP wr (w.heap.size + 1) (.slice la L.length lc') (ofN (users ins i))) := by
            refine ⟨hr, ?_⟩
            have e : users ins i = L := by rw [hL, ← HI.out.2]; rfl
            rw [e]
            exact OwnP.mono hlo (by have := H1.out.2.2.2; omega)
          have HM : Hid (i + 1 ≤ maxLen ∧ (i + 1) * 24 ≤ 140737488355328) := by constructor <;> (try unfold maxLen) <;> omega
          have hsz := hr.gb.lt
          clear hr hlo hXs hL
          go_wp2_with (at_builtin; refine wpList_append_lies _ rfl _ _ 32 rfl (w.heap.size + 1) 28 iS (.slice none 0 0) 1 24 Try.underlying32 hiS sz0 sz1 sz2 rfl (by decide) (.slice oa i oc) i vs rfl (HR.out.1.own.alloc (.cells #[.slice la L.length lc'] 28)) _ 1 1 [.slice la L.length lc'] rfl rfl (news_one (by simp)) (by simp [Value.oneCell']) (by decide) HM.out.1 HM.out.2 (by first | omega | (simp; omega)) _ rfl ?_; intro g8 c8 w8 hown8 hgrow8 hat8 hlt8; have HA : Hid (UU w (.slice ga nds.length gc) out (users ins) (i + 1) (.slice (some ⟨g8, 0, none⟩) (i + 1) c8) (vs ++ [.slice la L.length lc']) w8) := HR.out.1.push HR.out.2 hown8 hgrow8; clear hown8 hgrow8 hat8 hlt8)
          go_roundw
          case rel => exact ⟨i + 1, _, by omega, by go_num, HA.out⟩
          case measure => simp [intOf]; omega
    · have ei : i = nds.length := by omega
      subst ei
      have b0 := hr.gb.cell 0 rfl
      have HE : Hid (RuPost w nds.length (users ins) (.returned (.slice oa nds.length oc)) wr) := by
        have hmono : ∀ {v : Value} {n : Nat} {e : TypeId} {xs : List Value}, wr.ownsRow (w.heap.size + 1) e 1 v n xs → wr.ownsRow w.heap.size e 1 v n xs := fun {v n e xs} h => ⟨h.1, h.2.imp id fun ⟨g, cap, cur, hv, hB', rest⟩ => ⟨g, cap, cur, hv, by omega, rest⟩⟩
        exact ⟨oa, oc, vs, rfl, hmono hr.own, fun r hr' => OwnP.mono (hr.inner r hr') (by omega), hr.below⟩
      clear hr
      go_wp2_with fail
      go_ret
      exact HE.out
end Go.Proofs.Ythjfbcmbjfkodaa
