/- Layer 11: order.All. -/
import Derived.Test.YtfjeohnigikmoaaDoorOa
namespace Go.Proofs.YtfjeohnigikmoaaDoor
open Go.RowKit Go.Bx Go.Od Go.Hp
attribute [local go_sem ↓] Go.wp_at_zero Go.wp_at_succ
set_option linter.unusedVariables false

def l1 (ins : List (List Int)) (i r : Nat) : Int := if r < i then (inp ins r).length else 0
def z1 (ins : List (List Int)) (i : Nat) : List Nat := (List.range i).filter fun q => decide ((inp ins q).length = 0)
theorem l1_step (ins : List (List Int)) (i r : Nat) : (if r = i then ((inp ins i).length : Int) else l1 ins i r) = l1 ins (i + 1) r := by
  unfold l1
  by_cases e : r = i
  · subst e; simp
  · rw [if_neg e]
    by_cases h : r < i
    · rw [if_pos h, if_pos (by omega)]
    · rw [if_neg h, if_neg (by omega)]
theorem z1_step (ins : List (List Int)) (i : Nat) : z1 ins (i + 1) = if (inp ins i).length = 0 then z1 ins i ++ [i] else z1 ins i := by
  unfold z1
  rw [List.range_succ, List.filter_append]
  by_cases h : (inp ins i).length = 0
  · rw [if_pos h, List.filter_cons_of_pos (by simpa using h)]; rfl
  · rw [if_neg h, List.filter_cons_of_neg (by simpa using h)]; simp
theorem z1_len (ins : List (List Int)) (i : Nat) : (z1 ins i).length ≤ i := by
  have := List.length_filter_le (fun q => decide ((inp ins q).length = 0)) (List.range i)
  simpa [z1] using this
theorem z1_start (ins : List (List Int)) : KInv ins 0 [] (z1 ins ins.length) (l1 ins ins.length) :=
  KInv.start (fun i hi => by unfold l1; rw [if_pos hi]) (List.Nodup.sublist List.filter_sublist List.nodup_range) fun i => by simp [z1]
theorem A1.congr {w : World} {nb : Nat} {nv hv : Value} {out : Int} {n : Nat} {f g : Nat → Int} {hs : List Int} {wr : World} (h : A1 w nb nv out n f hv hs wr) (e : ∀ r, r < n → f r = g r) : A1 w nb nv out n g hv hs wr := ⟨h.gb, by rw [← lc_congr e]; exact h.lb, h.hp, h.heap, h.below, h.nbl⟩
theorem hv_form {w : World} {nb B : Nat} {hv : Value} {hs : List Int} (h : HpIs w nb B hv hs) : ∃ a c, hv = .slice a hs.length c := by
  rcases h.1.form with ⟨rfl, h'⟩ | ⟨g, cap, rfl, _⟩
  · exact ⟨none, 0, by rw [h']; rfl⟩
  · exact ⟨_, cap, rfl⟩
theorem pop_perm {k : Nat} {hs hs2 : List Int} {h : List Nat} (hp : hs.Perm (ofN h)) (h2 : ((k : Int) :: hs2).Perm hs) : ∃ h2 : List Nat, hs2.Perm (ofN h2) ∧ h.Perm (k :: h2) := by
  have hall := h2.trans hp
  obtain ⟨l, hl, hl2⟩ := ofN_of hall
  cases l with
  | nil => cases hl
  | cons x l =>
    unfold ofN at hl
    simp only [List.map_cons, List.cons.injEq] at hl
    obtain ⟨h1, h3⟩ := hl
    have : x = k := by omega
    subst this
    exact ⟨l, by rw [h3]; exact List.Perm.refl _, hl2.symm⟩
theorem makeL {w w2 : World} {nv : Value} {out : Int} {n L : Nat} (hL : L = w.heap.size + 1) (hown : w2.ownsRow (w.heap.size + 1) 3 1 (.slice (some ⟨L, 0, none⟩) n n) n (madeCells (Value.int .i64 0).cells (n * 1)).toList)
    (hg : (w.alloc (.cells #[nv, .int .i64 out] 24)).grownBy w2 none) (ins : List (List Int)) : Box w2 (w.heap.size + 1) (lc n (l1 ins 0)) ∧ Box w2 w.heap.size [nv, .int .i64 out] ∧ Below w.heap.size w w2 := by
  subst hL
  have hb := box_own hown
  have e : (madeCells (Value.int .i64 0).cells (n * 1)).toList = List.replicate n (.int .i64 0) := by
    rw [Nat.mul_one]
    exact toList_madeCells_one _ _
  have e2 : List.replicate n (Value.int .i64 0) = lc n (l1 ins 0) := by
    unfold lc l1
    apply List.ext_getElem?
    intro j
    by_cases hj : j < n
    · simp [hj]
    · rw [List.getElem?_eq_none (by simp; omega), List.getElem?_eq_none (by simp; omega)]
  rw [e, e2] at hb
  exact ⟨hb, (Box.new w _ _).grown' hg (by simp), (below_alloc w _).grown hg (by rw [size_alloc]; omega) (fun k hk => by cases hk)⟩
theorem alloc_at (w : World) (o : Obj) : (w.alloc o).heap[w.heap.size]? = some o := by
  show (w.heap.push o)[w.heap.size]? = _
  simp
theorem A1.made {w w2 : World} {nv : Value} {out : Int} {n : Nat} {left : Nat → Int} (h : Box w2 (w.heap.size + 1) (lc n left) ∧ Box w2 w.heap.size [nv, .int .i64 out] ∧ Below w.heap.size w w2) :
    A1 w (w2.heap.size + 1) nv out n left (.slice (some ⟨w2.heap.size, 0, none⟩) 0 0) [] ((w2.alloc (.cells #[] 3)).alloc (.cells #[.slice (some ⟨w2.heap.size, 0, none⟩) 0 0] 61)) := by
  obtain ⟨h1, h2, h3⟩ := h
  have hlt := h1.lt
  refine ⟨(h2.alloc _).alloc _, (h1.alloc _).alloc _, ⟨OwnP.alloc ?_ _, ?_, by simp [Value.ownBlock]⟩, fun i _ hi => by simp at hi, (h3.alloc (by omega) _).alloc (by rw [size_alloc]; omega) _, by omega⟩
  · refine ⟨rfl, .inr ⟨w2.heap.size, 0, #[], rfl, by omega, ?_, Nat.le_refl _, by decide, rfl, rfl⟩⟩
    show (w2.heap.push _)[w2.heap.size]? = _
    simp
  · have := alloc_at (w2.alloc (.cells #[] 3)) (.cells #[.slice (some ⟨w2.heap.size, 0, none⟩) 0 0] 61)
    rw [size_alloc] at this
    exact this
/-- where a row of uses lies, later -/
theorem use_row {w wU wr : World} {nb U n : Nat} {left : Nat → Int} {hv ov : Value} {hs : List Int} {o : List Nat} {f : Nat → List Nat} {vs : List Value} (h : AR w wU nb U n left hv hs ov o wr) (hu : US wU U n none f vs) {k : Nat} (hk : k < n) :
    ∃ a c, vs[k]? = some (.slice a (f k).length c) ∧ wr.cell? ⟨U, k, none⟩ = some (.slice a (f k).length c) ∧ ∀ wr', Bx.Same (fun k => U ≤ k ∧ k < wU.heap.size) wU wr' → ∀ (j u : Nat), (f k)[j]? = some u → ∃ g, a = some ⟨g, 0, none⟩ ∧ wr'.cell? ⟨g, j, none⟩ = some (.int .i64 u) := by
  obtain ⟨v, hv⟩ : ∃ v, vs.getD k undef = v := ⟨_, rfl⟩
  have hvg : vs[k]? = some v := by rw [← hv]; have := hu.len; simp [show k < vs.length by omega]
  have ho := hu.own k hk
  rw [hv] at ho
  obtain ⟨a, c, rfl⟩ := own_sl ho
  refine ⟨a, c, hvg, ?_, fun wr' hs' j u hj => ?_⟩
  · rw [h.us.cell ⟨Nat.le_refl _, hu.box.lt⟩]
    exact hu.box.cell k hvg
  · have hjl : j < (f k).length := (List.getElem?_eq_some_iff.1 hj).1
    rcases ho.form with ⟨h1, h'⟩ | ⟨g, cap, h1, h2, h3, _, _, _, _, hc⟩
    · have : (f k).length = 0 := by rw [← ofN_len, h']; rfl
      omega
    · simp only [Value.slice.injEq] at h1
      obtain ⟨rfl, _, _⟩ := h1
      refine ⟨g, rfl, ?_⟩
      rw [hs'.cell ⟨by omega, h3⟩, hc j (by rw [ofN_len]; exact hjl)]
      unfold ofN
      simp [hj]
theorem ov_form {w : World} {B : Nat} {ov : Value} {o : List Nat} (h : OwnP w B ov (ofN o)) : lenV ov = o.length := by
  obtain ⟨a, c, rfl⟩ := own_sl h
  rfl
def R2 (ins : List (List Int)) (w wU : World) (nb U n : Nat) (ov : Value) (wr : World) : Prop :=
  ∃ (m : Nat) (o h : List Nat) (left : Nat → Int) (hv : Value) (hs : List Int), KInv ins m o h left ∧ AR w wU nb U n left hv hs ov o wr ∧ hs.Perm (ofN h)
def R3 (ins : List (List Int)) (w wU : World) (nb U n m k : Nat) (o : List Nat) (ov : Value) (j : Nat) (wr : World) : Prop :=
  ∃ (h : List Nat) (left : Nat → Int) (hv : Value) (hs : List Int), KMid ins m o k (users ins k) j h left ∧ AR w wU nb U n left hv hs ov (o ++ [k]) wr ∧ hs.Perm (ofN h)
set_option maxHeartbeats 3200000 in
theorem all_c (B : Nat) (nv : Value) (nds : List Nd) (out : Int) (w : World) (hm : nds.length ≤ 999) (hl : ∀ i, i < nds.length → (nds.getD i Nd.none).ins.length ≤ 1000) (hg : Gr B w nv nds) (hB : B ≤ w.heap.size) :
    Calls Tryd.prog 21 #[.agg #[nv, .int .i64 out]] w (InPost w (ord (insOf nds))) := by
  obtain ⟨ga, gc, rfl⟩ := hg.isSl
  have hgl := hg.len_le
  obtain ⟨i3, hi3, hz0, hz1, hz2⟩ := info_parts infoI
  obtain ⟨ins, hins⟩ : ∃ ins, ins = insOf nds := ⟨_, rfl⟩
  have HI : Hid (ins = insOf nds ∧ ins.length = nds.length) := ⟨hins, by rw [hins, insOf_len]⟩
  have HG : Hid (Gr B w (.slice ga nds.length gc) nds ∧ ∀ i, i < nds.length → (nds.getD i Nd.none).ins.length ≤ 1000) := ⟨hg, hl⟩
  have ta := ta_int
  rw [← hins]
  clear hg hl hins
  go_enter Tryd.func21, Tryd.ntmps21
  go_wp2_with (at_make; refine wpList_make_full _ rfl _ _ 37 rfl (w.heap.size + 1) 3 i3 (.int .i64 0) 1 Tryd.underlying37 hi3 hz0 hz1 .i64 .i64 _ _ nds.length rfl rfl rfl rfl (by rw [hz2]; omega) (by unfold maxLen; omega) (by simp) ?_; intro w2 hown2 hgrow2; have HU : Hid (Box w2 (w.heap.size + 1) (lc nds.length (l1 ins 0)) ∧ Box w2 w.heap.size [.slice ga nds.length gc, .int .i64 out] ∧ Below w.heap.size w w2) := makeL (by simp) hown2 hgrow2 _; have H0 := A1.made HU.out; have c0 := H0.gb.cell 0 rfl; clear hown2 hgrow2)
  have HA0 : Hid (∃ hv hs, A1 w (w2.heap.size + 1) (.slice ga nds.length gc) out nds.length (l1 ins 0) hv hs ((w2.alloc (.cells #[] 3)).alloc (.cells #[.slice (some ⟨w2.heap.size, 0, none⟩) 0 0] 61)) ∧ hs.Perm (ofN (z1 ins 0))) := ⟨_, _, H0, List.Perm.refl _⟩
  clear c0 H0 HU
  go_loopw [20] (fun iv wr => ∃ i : Nat, i ≤ nds.length ∧ iv = .int .i64 i ∧ ∃ hv hs, A1 w (w2.heap.size + 1) (.slice ga nds.length gc) out nds.length (l1 ins i) hv hs wr ∧ hs.Perm (ofN (z1 ins i))) (fun iv _ => nds.length - (intOf iv).toNat)
  case atStart => exact ⟨0, Nat.zero_le _, rfl, HA0.out⟩
  case round =>
    obtain ⟨i, hi, rfl, hv, hs, hr, hp⟩ := hrel
    clear HA0
    have b0 := hr.gb.cell 0 rfl
    have b1 := hr.gb.cell 1 rfl
    by_cases hil : i < nds.length
    · have HR : Hid (A1 w (w2.heap.size + 1) (.slice ga nds.length gc) out nds.length (l1 ins i) hv hs wr ∧ hs.Perm (ofN (z1 ins i))) := ⟨hr, hp⟩
      clear hr hp
      go_wp2_with fail
      refine (inputs_c B _ nds out i wr hil (by omega) (HG.out.2 i hil) (HG.out.1.below HR.out.1.below hB) (Nat.le_trans hB HR.out.1.below.size)).mono ?_; rintro e w5 ⟨a5, c5, rfl, hown5, hb5⟩
      rw [← HI.out.1] at hown5 ⊢
      obtain ⟨q, hq⟩ : ∃ q, q = (inp ins i).length := ⟨_, rfl⟩
      have hqn : q ≤ 999 := by rw [hq]; have := inp_len ins i; have := HI.out.2; omega
      have H5 := HR.out.1.call hb5
      have d0 := H5.lb.cell i (lc_get _ hil)
      have f0 := H5.lb.frozen i
      have g0 := H5.gb.cell 0 rfl
      have H6 : Hid (A1 w (w2.heap.size + 1) (.slice ga nds.length gc) out nds.length (l1 ins (i + 1)) hv hs (w5.setCell ⟨w.heap.size + 1, i, none⟩ (.int .i64 q))) := (H5.setL i q).congr fun r _ => by rw [hq]; exact l1_step ins i r
      have HZ : Hid (z1 ins (i + 1) = if q = 0 then z1 ins i ++ [i] else z1 ins i) := by rw [hq]; exact z1_step ins i
      rw [← hq]
      clear hown5 hb5 b0 b1 H5 hq
      obtain ⟨a, c, rfl⟩ := hv_form H6.out.hp
      by_cases h0 : q = 0
      · have HZ1 : Hid (z1 ins (i + 1) = z1 ins i ++ [i]) := HZ.out.trans (if_pos h0)
        clear HZ
        subst h0
        go_wp2_with fail
        refine (hpush_c (w2.heap.size + 1) (w.heap.size + 2) hs.length c a hs i _ rfl (by have := HR.out.2.length_eq; rw [ofN_len] at this; have := z1_len ins i; omega) H6.out.hp (by have := H6.out.lb.lt; omega) H6.out.heap).mono ?_; rintro e w7 ⟨rfl, a7, c7, hs7, q1, q2, q3, q4, q5⟩
        have H7 : Hid (∃ hv hs, A1 w (w2.heap.size + 1) (.slice ga nds.length gc) out nds.length (l1 ins (i + 1)) hv hs w7 ∧ hs.Perm (ofN (z1 ins (i + 1)))) := ⟨_, _, H6.out.push q4 q3 q1, by
          rw [HZ1.out, ofN_app]
          exact q2.trans (List.Perm.append_right _ HR.out.2)⟩
        clear q1 q2 q3 q4 q5
        go_wp2_with fail
        go_roundw
        case rel => exact ⟨i + 1, by omega, by go_num, H7.out⟩
        case measure => simp [intOf]; omega
      · have e0 : ((q : Int) == 0) = false := by simp; omega
        have H7 : Hid (∃ hv hs, A1 w (w2.heap.size + 1) (.slice ga nds.length gc) out nds.length (l1 ins (i + 1)) hv hs (w5.setCell ⟨w.heap.size + 1, i, none⟩ (.int .i64 q)) ∧ hs.Perm (ofN (z1 ins (i + 1)))) := ⟨_, _, H6.out, by
          rw [HZ.out, if_neg h0]
          exact HR.out.2⟩
        go_wp2_with fail
        go_roundw
        case rel => exact ⟨i + 1, by omega, by go_num, H7.out⟩
        case measure => simp [intOf]; omega
    · have ei : i = nds.length := by omega
      subst ei
      have HR : Hid (A1 w (w2.heap.size + 1) (.slice ga nds.length gc) out nds.length (l1 ins nds.length) hv hs wr ∧ hs.Perm (ofN (z1 ins nds.length))) := ⟨hr, hp⟩
      clear hr hp
      go_wp2_with fail
      refine (uses_c B _ nds out wr hm HG.out.2 (HG.out.1.below HR.out.1.below hB) (Nat.le_trans hB HR.out.1.below.size)).mono ?_; rintro e wU ⟨U, vs, hU, rfl, hus, hbU⟩
      rw [← HI.out.1] at hus
      have HUS : Hid (US wU U nds.length none (users ins) vs ∧ U < wU.heap.size) := ⟨hus, hus.box.lt⟩
      have H0 : Hid (R2 ins w wU (w2.heap.size + 1) U nds.length (.slice none 0 0) wU) := by
        have hk := z1_start ins
        rw [HI.out.2] at hk
        exact ⟨0, [], _, _, _, _, hk, AR.start HR.out.1 hU hbU hus.box.lt, HR.out.2⟩
      clear hus hbU b0 b1 HR
      go_wp2_with fail
      go_loopw [7] (fun ov wr => R2 ins w wU (w2.heap.size + 1) U nds.length ov wr) (fun ov _ => nds.length - lenV ov)
      case atStart => exact H0.out
      case round =>
        obtain ⟨m, o, h, left, hv, hs, hk, hr, hp⟩ := hrel
        clear H0
        obtain ⟨a, c, rfl⟩ := hv_form hr.hp
        have bx : Box wr (w2.heap.size + 1) [.slice a hs.length c] := ⟨_, hr.hp.2.1⟩
        have c0 := bx.cell 0 rfl
        obtain ⟨oa, oc, hov⟩ := own_sl hr.oo
        subst hov
        have HR : Hid (KInv ins m o h left ∧ AR w wU (w2.heap.size + 1) U nds.length left (.slice a hs.length c) hs (.slice oa o.length oc) o wr ∧ hs.Perm (ofN h)) := ⟨hk, hr, hp⟩
        have hhl : hs.length = h.length := by have := hp.length_eq; rwa [ofN_len] at this
        have hhn : hs.length ≤ 999 := by
          have h1 := len_le hk.hnd fun i hi => ((hk.heap i).1 hi).1
          have h2 := HI.out.2
          omega
        clear bx hk hr hp
        obtain ⟨N, hN⟩ : ∃ N, N = hs.length := ⟨_, rfl⟩
        rw [← hN] at c0 hhl hhn
        have HHL : Hid (N = hs.length ∧ N = h.length) := ⟨hN, hhl⟩
        clear hN hhl
        go_wp2_with fail
        refine (len_c a N c wr).mono ?_; rintro e w3 ⟨rfl, hb3⟩
        have H3 := HR.out.2.1.call hb3
        rw [← HHL.out.1] at H3
        by_cases h0 : N = 0
        · have he : ((N : Int) > 0) = False := by simp; omega
          have HE : Hid (InPost w (ord ins) (.returned (.slice oa o.length oc)) w3) := by
            have hh : h = [] := List.eq_nil_of_length_eq_zero (by have := HHL.out.2; omega)
            have hk := HR.out.1
            rw [hh] at hk
            rw [hk.done]
            exact ⟨oa, oc, rfl, OwnP.mono H3.oo (by have := H3.ule; have := H3.nbl; have := HUS.out.2; omega), H3.below⟩
          subst h0
          clear H3 hb3 c0
          go_wp2_with fail
          go_ret
          exact HE.out
        · obtain ⟨n, hn⟩ : ∃ n, N = n + 1 := ⟨N - 1, by omega⟩
          obtain ⟨g, rfl⟩ : ∃ g, a = some ⟨g, 0, none⟩ := by
            rcases H3.hp.1.form with ⟨h1, h'⟩ | ⟨g, cap, h1, _⟩
            · have h2 := HHL.out.1; rw [h'] at h2; simp at h2; omega
            · simp only [Value.slice.injEq] at h1
              exact ⟨g, h1.1⟩
          have hN0 : (0 : Int) < (N : Int) := by omega
          have H3' : Hid (AR w wU (w2.heap.size + 1) U nds.length left (.slice (some ⟨g, 0, none⟩) N c) hs (.slice oa o.length oc) o w3) := H3
          clear H3 hb3 c0
          go_wp2_with fail
          refine (hpop_c (w2.heap.size + 1) (w.heap.size + 2) g c N n hs w3 HHL.out.1.symm hn (by omega) H3'.out.hp H3'.out.heap).mono ?_; rintro e w4 ⟨rfl, hs2, p1, p2, p3, p4⟩
          obtain ⟨k, hk0, hkh⟩ := heap_node HR.out.2.2 (x := hs.getD 0 0) (by simp [show 0 < hs.length by have := HHL.out.1; omega])
          rw [hk0] at p2 ⊢
          obtain ⟨h2, p5, p6⟩ := pop_perm HR.out.2.2 p2
          have hmin : ∀ i ∈ h, k ≤ i := fun i hi => by
            have h1 : (i : Int) ∈ hs := HR.out.2.2.mem_iff.2 (by unfold ofN; exact List.mem_map.2 ⟨i, hi, rfl⟩)
            obtain ⟨j, hj, e⟩ := List.mem_iff_getElem.1 h1
            have := heap_min H3'.out.heap j hj
            simp [hj, e] at this
            rw [List.getD_eq_getElem?_getD] at hk0
            omega
          have hkn : k < nds.length := by have := (HR.out.1.heap k).1 hkh |>.1; have := HI.out.2; omega
          have HK4 : Hid (AR w wU (w2.heap.size + 1) U nds.length left (.slice (some ⟨g, 0, none⟩) n c) hs2 (.slice oa o.length oc) o w4 ∧ KMid ins m o k (users ins k) 0 h2 left ∧ hs2.Perm (ofN h2)) := ⟨H3'.out.push p4 p3 p1 HUS.out.2 fun j hj => .inl hj, HR.out.1.pop hkh hmin p6 (users_mem ins k) (users_nodup ins k), p5⟩
          have hon2 : o.length < nds.length := by
            have h1 := len_le HK4.out.2.1.nodup HK4.out.2.1.bound
            have h2 := HI.out.2
            simp at h1
            omega
          have hon : o.length ≤ 998 := by omega
          have HM : Hid (o.length + 1 ≤ maxLen ∧ (o.length + 1) * 8 ≤ 140737488355328) := by constructor <;> (try unfold maxLen) <;> omega
          clear p1 p2 p3 p4 p5 p6 hmin hk0 hkh H3'
          go_wp2_with (at_builtin; refine wpList_append_lies _ rfl _ _ 37 rfl wU.heap.size 3 i3 (.int .i64 0) 1 8 Tryd.underlying37 hi3 hz0 hz1 hz2 rfl (by decide) (.slice oa o.length oc) o.length ((ofN o).map (Value.int .i64)) rfl (OwnP.row (ofN_len o) (HK4.out.1.oo.alloc (.cells #[.int .i64 k] 3))) _ 1 1 [.int .i64 k] rfl rfl (news_one (by simp)) (by simp [Value.oneCell']) (by decide) HM.out.1 HM.out.2 (by have := HK4.out.1.size; first | omega | (simp; omega)) (w4.heap.size + 1) (by simp) ?_; intro g8 c8 w8 hown8 hgrow8 hat8 hlt8; have HA : Hid (AR w wU (w2.heap.size + 1) U nds.length left (.slice (some ⟨g, 0, none⟩) n c) hs2 (.slice (some ⟨g8, 0, none⟩) (o.length + 1) c8) (o ++ [k]) w8) := HK4.out.1.app HUS.out.2 hown8 hgrow8 hat8; clear hown8 hgrow8 hat8 hlt8; obtain ⟨ua, uc, hvk, hck, hrk⟩ := use_row HA.out HUS.out.1 hkn; have HRK : Hid (∀ wr', Bx.Same (fun k => U ≤ k ∧ k < wU.heap.size) wU wr' → ∀ j u : Nat, (users ins k)[j]? = some u → ∃ g, ua = some ⟨g, 0, none⟩ ∧ wr'.cell? ⟨g, j, none⟩ = some (.int .i64 u)) := hrk; clear hvk hrk; have hul : (users ins k).length ≤ 999 := by (have h1 := len_le (users_nodup ins k) (fun i hi => ((users_mem ins k i).1 hi).1); have h2 := HI.out.2; omega))
          have H0 : Hid (R3 ins w wU (w2.heap.size + 1) U nds.length m k o (.slice (some ⟨g8, 0, none⟩) (o.length + 1) c8) 0 w8) := ⟨_, _, _, _, HK4.out.2.1, HA.out, HK4.out.2.2⟩
          clear hck HA HK4
          go_loopw [61] (fun jv wr => ∃ j : Nat, j ≤ (users ins k).length ∧ jv = .int .i64 j ∧ R3 ins w wU (w2.heap.size + 1) U nds.length m k o (.slice (some ⟨g8, 0, none⟩) (o.length + 1) c8) j wr) (fun jv _ => (users ins k).length - (intOf jv).toNat)
          case atStart => exact ⟨0, Nat.zero_le _, rfl, H0.out⟩
          case round =>
            obtain ⟨j, hj, rfl, h3, left3, hv3, hs3, hk3, hr3, hp3⟩ := hrel
            clear H0
            by_cases hjl : j < (users ins k).length
            · obtain ⟨u, hu⟩ : ∃ u, u = (users ins k)[j] := ⟨_, rfl⟩
              have huj : (users ins k)[j]? = some u := by rw [hu]; exact List.getElem?_eq_getElem hjl
              obtain ⟨g7, rfl, hc7⟩ := HRK.out _ hr3.us j u huj
              have hun : u < nds.length := by have := ((users_mem ins k u).1 (List.mem_of_getElem? huj)).1; have := HI.out.2; omega
              have d0 := hr3.lb.cell u (lc_get _ hun)
              have f0 := hr3.lb.frozen u
              obtain ⟨x, hx⟩ : ∃ x, x = left3 u := ⟨_, rfl⟩
              have hxb : 1 ≤ x ∧ x ≤ 999 := by
                have h1 := hk3.lft u (by rw [HI.out.2]; exact hun)
                rw [if_neg (not_take (users_nodup ins k) huj)] at h1
                have h2 := lf_le ins o u
                have h4 := HI.out.2
                have h5 := (hk3.step (left' := fun i => if i = u then left3 u - 1 else left3 i) (h' := if left3 u - 1 = 0 then u :: h3 else h3) huj (fun i _ => rfl) (by split <;> simp)).1
                omega
              have H6 : Hid (AR w wU (w2.heap.size + 1) U nds.length (fun i => if i = u then x - 1 else left3 i) hv3 hs3 (.slice (some ⟨g8, 0, none⟩) (o.length + 1) c8) (o ++ [k]) (wr.setCell ⟨w.heap.size + 1, u, none⟩ (.int .i64 (x - 1)))) := hr3.setL HUS.out.2 u (x - 1)
              have HK3 : Hid (KMid ins m o k (users ins k) j h3 left3 ∧ hs3.Perm (ofN h3) ∧ x = left3 u ∧ (users ins k)[j]? = some u) := ⟨hk3, hp3, hx, huj⟩
              rw [← hx] at d0
              obtain ⟨a3, c3, rfl⟩ := hv_form hr3.hp
              clear hk3 hr3 hp3 hx huj hu
              obtain ⟨hx1, hx2⟩ := hxb
              obtain ⟨y, rfl⟩ : ∃ y : Nat, x = y + 1 := ⟨(x - 1).toNat, by omega⟩
              rw [show ((y : Int) + 1) - 1 = y by omega] at H6
              by_cases h0 : y = 0
              · have HS : Hid (∀ hs4 : List Int, hs4.Perm (hs3 ++ [(u : Int)]) → ∃ h4, KMid ins m o k (users ins k) (j + 1) h4 (fun i => if i = u then (y : Int) else left3 i) ∧ hs4.Perm (ofN h4)) := by
                  intro hs4 hp4
                  refine ⟨u :: h3, (HK3.out.1.step HK3.out.2.2.2 (fun i _ => ?_) (by rw [← HK3.out.2.2.1, if_pos (by omega)])).2.2, ?_⟩
                  · show (if i = u then (y : Int) else left3 i) = _
                    rw [← HK3.out.2.2.1]
                    by_cases e : i = u
                    · rw [if_pos e, if_pos e]; omega
                    · rw [if_neg e, if_neg e]
                  · refine hp4.trans ?_
                    have h1 : (hs3 ++ [(u : Int)]).Perm ((u : Int) :: hs3) := List.perm_append_singleton _ _
                    exact h1.trans (List.Perm.cons _ HK3.out.2.1)
                have hsl : hs3.length < 999 := by
                  have h1 := HK3.out.1
                  have h2 := len_le (l := u :: h3) (n := nds.length) ?_ ?_
                  · have h4 := HK3.out.2.1.length_eq
                    rw [ofN_len] at h4
                    simp at h2
                    omega
                  · obtain ⟨h4, e1, e2⟩ := HS.out (hs3 ++ [(u : Int)]) (List.Perm.refl _)
                    have h5 : h4.Perm (u :: h3) := ofN_perm (e2.symm.trans ((List.perm_append_singleton _ _).trans (List.Perm.cons _ HK3.out.2.1)))
                    exact h5.nodup_iff.1 e1.hnd
                  · intro i hi
                    rcases List.mem_cons.1 hi with rfl | hi
                    · exact hun
                    · have := ((h1.heap i).1 hi).1
                      have := HI.out.2
                      omega
                subst h0
                go_wp2_with fail
                refine (hpush_c (w2.heap.size + 1) (w.heap.size + 2) hs3.length c3 a3 hs3 u _ rfl (by omega) H6.out.hp (by have := H6.out.lb.lt; omega) H6.out.heap).mono ?_; rintro e w7 ⟨rfl, a7, c7, hs7, q1, q2, q3, q4, q5⟩
                have H7 : Hid (R3 ins w wU (w2.heap.size + 1) U nds.length m k o (.slice (some ⟨g8, 0, none⟩) (o.length + 1) c8) (j + 1) w7) := by
                  obtain ⟨h4, e1, e2⟩ := HS.out hs7 q2
                  exact ⟨h4, _, _, _, e1, H6.out.push q4 q3 q1 HUS.out.2 q5, e2⟩
                clear q1 q2 q3 q4 q5 HS
                go_wp2_with fail
                go_roundw
                case rel => exact ⟨j + 1, by omega, by go_num, H7.out⟩
                case measure => simp [intOf]; omega
              · have e0 : ((y : Int) == 0) = false := by simp; omega
                have H7 : Hid (R3 ins w wU (w2.heap.size + 1) U nds.length m k o (.slice (some ⟨g8, 0, none⟩) (o.length + 1) c8) (j + 1) (wr.setCell ⟨w.heap.size + 1, u, none⟩ (.int .i64 y))) := by
                  refine ⟨h3, _, _, _, (HK3.out.1.step HK3.out.2.2.2 (fun i _ => ?_) (by rw [← HK3.out.2.2.1, if_neg (by omega)])).2.2, H6.out, HK3.out.2.1⟩
                  show (if i = u then (y : Int) else left3 i) = _
                  rw [← HK3.out.2.2.1]
                  by_cases e : i = u
                  · rw [if_pos e, if_pos e]; omega
                  · rw [if_neg e, if_neg e]
                go_wp2_with fail
                go_roundw
                case rel => exact ⟨j + 1, by omega, by go_num, H7.out⟩
                case measure => simp [intOf]; omega
            · have ej : j = (users ins k).length := by omega
              subst ej
              have HE : Hid (R2 ins w wU (w2.heap.size + 1) U nds.length (.slice (some ⟨g8, 0, none⟩) (o.length + 1) c8) wr) := ⟨_, _, _, _, _, _, hk3.fin, hr3, hp3⟩
              clear hk3 hr3 hp3
              go_wp2_with fail
              go_roundw
              case rel => exact HE.out
              case measure => simp [lenV]; omega
end Go.Proofs.YtfjeohnigikmoaaDoor
