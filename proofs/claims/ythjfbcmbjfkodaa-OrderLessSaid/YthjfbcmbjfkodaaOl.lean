/- 'OrderLess' of whatever graph and place: the walk. -/
import Derived.Test.YthjfbcmbjfkodaaGc
namespace Go.Proofs.Ythjfbcmbjfkodaa
open Go.RowKit Go.Bx Go.Od Go.Hp
attribute [local go_sem ↓] Go.wp_at_zero Go.wp_at_succ
set_option linter.unusedVariables false

/-- what the operations of 'h := ..' yield -/
def LT (n n2 N : Nat) (gv : Value) (out : Int) (news : List Value) (i : Nat) (v : Value) (W : World) : Prop := match i with
  | 0 => ∃ g, v = .slice (some ⟨g, 0, none⟩) 0 0 ∧ W.ownsRow n2 36 3 (.slice (some ⟨g, 0, none⟩) 0 0) 0 []
  | 1 => v = .pointer (some ⟨n, 0, none⟩)
  | 2 => v = gv
  | 3 => ∃ a c, v = .slice (some ⟨a, 0, none⟩) N c ∧ W.ownsRow n2 36 3 (.slice (some ⟨a, 0, none⟩) N c) N news
  | 4 => v = .pointer (some ⟨n, 1, none⟩)
  | 5 => v = .int .i64 out
  | 6 => ∃ a c, v = .agg #[.slice (some ⟨a, 0, none⟩) N c, .int .i64 out] ∧ W.ownsRow n2 36 3 (.slice (some ⟨a, 0, none⟩) N c) N news
  | 7 => ∃ g, v = .pointer (some ⟨g, 0, none⟩) ∧ n2 ≤ g ∧ W.heap[g]? = some (.cells #[.slice none 0 0, .int .i64 0] 24 (0, 0))
  | _ => True
theorem LT.stab {n n2 N : Nat} {gv : Value} {out : Int} {news : List Value} (i : Nat) (v : Value) (W W' : World) (h : LT n n2 N gv out news i v W) (hb : Below W.heap.size W W') : LT n n2 N gv out news i v W' := by
  match i, h with
  | 0, ⟨g, h1, h2⟩ => exact ⟨g, h1, owns_below h2 hb (Nat.le_refl _)⟩
  | 1, h => exact h
  | 2, h => exact h
  | 3, ⟨a, c, h1, h2⟩ => exact ⟨a, c, h1, owns_below h2 hb (Nat.le_refl _)⟩
  | 4, h => exact h
  | 5, h => exact h
  | 6, ⟨a, c, h1, h2⟩ => exact ⟨a, c, h1, owns_below h2 hb (Nat.le_refl _)⟩
  | 7, ⟨g, h1, h2, h3⟩ => exact ⟨g, h1, h2, (hb.block g (Array.getElem?_eq_some_iff.1 h3).1).trans h3⟩
  | _ + 8, _ => trivial
/-- a row of nodes is no block of another type -/
theorem own_off {W : World} {B N g a c : Nat} {xs cs : List Value} {t : TypeId} (h : W.ownsRow B 36 3 (.slice (some ⟨a, 0, none⟩) N c) N xs) (hg : W.heap[g]? = some (.cells cs.toArray t (0, 0))) (ht : t ≠ 36) : a ≠ g := by
  rcases h.2 with ⟨h, _⟩ | ⟨g', cap, cur, h1, _, hb, _⟩
  · cases h
  · cases h1
    intro e
    subst e
    rw [hg] at hb
    simp at hb
    exact ht hb.2
/-- the inputs, some of one node's left out -/
theorem strike_inp (nds : List Nd) (k : Nat) : ∀ i, i < nds.length → ∀ x ∈ inp (insOf (nds.set k { nds.getD k Nd.none with ins := [] })) i, x ∈ inp (insOf nds) i := by
  intro i hi x hx
  rw [inp_mem, insOf_len, insOf_get] at hx ⊢
  rw [List.length_set] at hx
  refine ⟨hx.1, ?_⟩
  by_cases e : i = k
  · subst e
    have : (nds.set i { nds.getD i Nd.none with ins := [] }).getD i Nd.none = { nds.getD i Nd.none with ins := [] } := by simp [hi]
    rw [this] at hx
    cases hx.2
  · have : (nds.set k { nds.getD k Nd.none with ins := [] }).getD i Nd.none = nds.getD i Nd.none := by
      simp only [List.getD_eq_getElem?_getD]
      rw [List.getElem?_set_ne (fun h => e h.symm)]
    rw [this] at hx
    exact hx.2
theorem strike_len (nds : List Nd) (k : Nat) (h : ∀ i, i < nds.length → (nds.getD i Nd.none).ins.length ≤ 1000) : ∀ i, i < (nds.set k { nds.getD k Nd.none with ins := [] }).length → ((nds.set k { nds.getD k Nd.none with ins := [] }).getD i Nd.none).ins.length ≤ 1000 := by
  intro i hi
  rw [List.length_set] at hi
  by_cases e : i = k
  · subst e
    have : (nds.set i { nds.getD i Nd.none with ins := [] }).getD i Nd.none = { nds.getD i Nd.none with ins := [] } := by simp [hi]
    rw [this]
    simp
  · have : (nds.set k { nds.getD k Nd.none with ins := [] }).getD i Nd.none = nds.getD i Nd.none := by
      simp only [List.getD_eq_getElem?_getD]
      rw [List.getElem?_set_ne (fun h => e h.symm)]
    rw [this]
    exact h i hi
set_option maxRecDepth 4000 in
set_option maxHeartbeats 3200000 in
theorem orderLess_walk (nv : Value) (nds : List Nd) (out : Int) (at_ : Nat) (hat : at_ ≤ 255) (w : World) (hg : Gr w.heap.size w nv nds) :
    Calls Try.prog 6 #[.agg #[nv, .int .i64 out], .int .u8 at_] w (TPost w) := by
  obtain ⟨ga, gc, rfl⟩ := hg.isSl
  have hgl := hg.len_le
  have b0' := Box.new w [.slice ga nds.length gc, .int .i64 out] 24
  have B0 := below_alloc w (.cells #[.slice ga nds.length gc, .int .i64 out] 24)
  have HG : Hid (Gr w.heap.size w (.slice ga nds.length gc) nds) := hg
  clear hg
  go_enter Try.func6, Try.ntmps6
  go_wp2_with fail
  have H0 : Hid (Box (w.alloc (.cells #[.slice ga nds.length gc, .int .i64 out] 24)) w.heap.size [.slice ga nds.length gc, .int .i64 out] ∧ Below w.heap.size w (w.alloc (.cells #[.slice ga nds.length gc, .int .i64 out] 24))) := ⟨b0', B0⟩
  clear b0' B0
  generalize w.alloc (.cells #[.slice ga nds.length gc, .int .i64 out] 24) = W0 at *
  refine (awake_c W0).mono ?_; rintro e w1 ⟨rfl, hb1⟩
  have H1 : Hid (Box w1 w.heap.size [.slice ga nds.length gc, .int .i64 out] ∧ Below w.heap.size w w1) := ⟨H0.out.1.call hb1, H0.out.2.trans (hb1.mono H0.out.2.size)⟩
  have g0 := H1.out.1.cell 0 rfl
  have g1 := H1.out.1.cell 1 rfl
  clear hb1 H0
  go_wp2_with fail
  refine (rfew_c w.heap.size _ nds out 100 w1 (by decide) (HG.out.below H1.out.2 (Nat.le_refl _))).mono ?_; rintro e w2 ⟨rfl, hb2⟩
  have H2 : Hid (Box w2 w.heap.size [.slice ga nds.length gc, .int .i64 out] ∧ Below w.heap.size w w2) := ⟨H1.out.1.call hb2, H1.out.2.trans (hb2.mono H1.out.2.size)⟩
  clear g0 g1 hb2 H1
  have c0 := H2.out.1.cell 0 rfl
  have c1 := H2.out.1.cell 1 rfl
  obtain ⟨q, hq⟩ : ∃ q, q = fewB nds 100 := ⟨_, rfl⟩
  have HQ : Hid (q = fewB nds 100) := hq
  rw [← hq]
  clear hq
  have hend : Hid (∀ w3, Below w2.heap.size w2 w3 → TPost w (.returned (.bool true)) w3) := fun w3 hb => ⟨rfl, H2.out.2.trans (hb.mono H2.out.2.size)⟩
  cases q with
  | false =>
    go_wp2_with fail
    refine (awake_c w2).mono ?_; rintro e w3 ⟨rfl, hb3⟩
    have HE : Hid (TPost w (.returned (.bool true)) w3) := hend.out w3 hb3
    clear c0 c1 hb3
    go_wp2_with fail
    go_ret
    exact HE.out
  | true =>
    by_cases hn0 : nds.length = 0
    · have he : ((nds.length : Int) == 0) = true := by simp [hn0]
      go_wp2_with fail
      refine (awake_c w2).mono ?_; rintro e w3 ⟨rfl, hb3⟩
      have HE : Hid (TPost w (.returned (.bool true)) w3) := hend.out w3 hb3
      clear c0 c1 hb3
      go_wp2_with fail
      go_ret
      exact HE.out
    · have he : ((nds.length : Int) == 0) = false := beq_eq_false_iff_ne.2 (by omega)
      have HF : Hid (nds.length ≤ 100 ∧ ∀ i, i < nds.length → (nds.getD i Nd.none).ins.length ≤ 1000) := few_of HQ.out.symm (by decide)
      have hn100 := HF.out.1
      obtain ⟨news, hnl, hncell, hnone', hnnil, hncopy⟩ := HG.out.cells rfl
      have HNW : Hid (news.length = nds.length * 3 ∧ (∀ b, ga = some b → ∀ j u, news[j]? = some u → w.cell? (b.add j) = some u) ∧ (∀ u ∈ news, u.oneCell' = true) ∧ (ga = none → nds.length = 0) ∧ ∀ (W : World) (base g c' : Nat), W.ownsRow base 36 3 (.slice (some ⟨g, 0, none⟩) nds.length c') nds.length news → Below w.heap.size w W → GcAt w.heap.size W g nds) := ⟨hnl, hncell, hnone', hnnil, hncopy⟩
      clear hnl hncell hnone' hnnil hncopy HQ hend
      have BW : Hid (Below w.heap.size w w2) := H2.out.2
      have hnp : 0 < nds.length := by omega
      have HNP : Hid (0 < nds.length) := hnp
      clear hnp
      go_wp2_with fail
      rename_i K hK
      refine wp_region_mono (LT w.heap.size w2.heap.size nds.length (.slice ga nds.length gc) out news) 8 _ rfl rfl (by kernel_rfl) (by kernel_rfl) LT.stab ?hop ?hlast
      case hop =>
        refine Each.get (n := 8) ⟨⟨⟨⟨⟨⟨⟨⟨trivial, ?h0⟩, ?h1⟩, ?h2⟩, ?h3⟩, ?h4⟩, ?h5⟩, ?h6⟩, ?h7⟩
        case h0 =>
          refine OpOk.plain (by kernel_rfl) _ rfl rfl fun vs ev W hf hb hd => ?_
          clear hK
          refine gives_mono (R := fun v w' => v = .slice (some ⟨W.heap.size, 0, none⟩) 0 0 ∧ w' = W.alloc (.cells #[] 36)) (by simp [gives, go_sem]) ?_
          rintro _ _ ⟨rfl, rfl⟩
          exact ⟨⟨_, rfl, World.ownsRow_made W #[] 0 hb.size (Nat.zero_le _) (by simp)⟩, (Below.refl _ _).alloc (Nat.le_refl _) _⟩
        case h1 =>
          refine OpOk.plain (by kernel_rfl) _ rfl rfl fun vs ev W hf hb hd => ?_
          have e : ev (.tmp 2) = .pointer (some ⟨w.heap.size, 0, none⟩) := hf.off 2 rfl
          clear hK
          exact gives_mono (R := fun v w' => v = .pointer (some ⟨w.heap.size, 0, none⟩) ∧ w' = W) (by simp [gives, go_sem, e]) fun _ _ ⟨h1, h2⟩ => by subst h2; exact ⟨h1, Below.refl _ _⟩
        case h2 =>
          refine OpOk.plain (by kernel_rfl) _ rfl rfl fun vs ev W hf hb hd => ?_
          have e : ev (.tmp 21) = .pointer (some ⟨w.heap.size, 0, none⟩) := (hf.of 1 _ 21 rfl rfl rfl (of_decide_eq_true rfl)).trans (hd 1 (by kernel_rfl))
          have d0 := (hb.cell (lt_of_cell c0)).trans c0
          clear hK
          exact gives_mono (R := fun v w' => v = .slice ga nds.length gc ∧ w' = W) (by simp [gives, go_sem, e, d0]) fun _ _ ⟨h1, h2⟩ => by subst h2; exact ⟨h1, Below.refl _ _⟩
        case h3 =>
          refine OpOk.plain (by kernel_rfl) _ rfl rfl fun vs ev W hf hb hd => ?_
          obtain ⟨g, h1, h2⟩ := hd 0 (by kernel_rfl)
          have e1 : ev (.tmp 20) = .slice (some ⟨g, 0, none⟩) 0 0 := (hf.of 0 _ 20 rfl rfl rfl (of_decide_eq_true rfl)).trans h1
          have e2 : ev (.tmp 22) = .slice ga nds.length gc := (hf.of 2 _ 22 rfl rfl rfl (of_decide_eq_true rfl)).trans (hd 2 (by kernel_rfl))
          obtain ⟨i3, hi3, hz0, hz1, hz2⟩ := info_parts infoN
          obtain ⟨a', c', W', hr, ho, hbl, _⟩ := app_copy (P := Try.prog) 22 36 i3 (.agg #[.int .i64 0, .slice none 0 0, .slice none 0 0]) 3 56 Try.underlying22 hi3 hz0 hz1 hz2 rfl (by decide) h2 ga nds.length gc news HNW.out.1 (by
            intro b hbe j u hu
            have h3 := HNW.out.2.1 b hbe j u hu
            exact (hb.cell (Nat.lt_of_lt_of_le (lt_of_cell h3) BW.out.size)).trans ((BW.out.cell (lt_of_cell h3)).trans h3)) HNW.out.2.2.1 HNW.out.2.2.2.1 HNP.out (by unfold maxLen; omega) (by omega) hb.size
          clear hK
          refine gives_mono (R := fun v w' => v = .slice (some ⟨a', 0, none⟩) nds.length c' ∧ w' = W') (by unfold gives; simp [execOp, resolve, invoke, builtin, e1, e2, hr, Result.andThen]) ?_
          rintro _ _ ⟨rfl, rfl⟩
          exact ⟨⟨_, _, rfl, ho⟩, hbl⟩
        case h4 =>
          refine OpOk.plain (by kernel_rfl) _ rfl rfl fun vs ev W hf hb hd => ?_
          have e : ev (.tmp 2) = .pointer (some ⟨w.heap.size, 0, none⟩) := hf.off 2 rfl
          clear hK
          exact gives_mono (R := fun v w' => v = .pointer (some ⟨w.heap.size, 1, none⟩) ∧ w' = W) (by simp [gives, go_sem, e]) fun _ _ ⟨h1, h2⟩ => by subst h2; exact ⟨h1, Below.refl _ _⟩
        case h5 =>
          refine OpOk.plain (by kernel_rfl) _ rfl rfl fun vs ev W hf hb hd => ?_
          have e : ev (.tmp 24) = .pointer (some ⟨w.heap.size, 1, none⟩) := (hf.of 4 _ 24 rfl rfl rfl (of_decide_eq_true rfl)).trans (hd 4 (by kernel_rfl))
          have d0 := (hb.cell (lt_of_cell c1)).trans c1
          clear hK
          exact gives_mono (R := fun v w' => v = .int .i64 out ∧ w' = W) (by simp [gives, go_sem, e, d0]) fun _ _ ⟨h1, h2⟩ => by subst h2; exact ⟨h1, Below.refl _ _⟩
        case h6 =>
          refine OpOk.plain (by kernel_rfl) _ rfl rfl fun vs ev W hf hb hd => ?_
          obtain ⟨a, c, h1, h2⟩ := hd 3 (by kernel_rfl)
          have e1 := (hf.of 3 _ 23 rfl rfl rfl (of_decide_eq_true rfl)).trans h1
          have e2 := (hf.of 5 _ 25 rfl rfl rfl (of_decide_eq_true rfl)).trans (hd 5 (by kernel_rfl))
          clear hK
          refine gives_mono (R := fun v w' => v = .agg #[.slice (some ⟨a, 0, none⟩) nds.length c, .int .i64 out] ∧ w' = W) (by simp [gives, go_sem, e1, e2]) ?_
          rintro _ _ ⟨rfl, rfl⟩
          exact ⟨⟨a, c, rfl, h2⟩, Below.refl _ _⟩
        case h7 =>
          refine OpOk.plain (by kernel_rfl) _ rfl rfl fun vs ev W hf hb hd => ?_
          clear hK
          refine gives_mono (R := fun v w' => v = .pointer (some ⟨W.heap.size, 0, none⟩) ∧ w' = W.alloc (.cells #[.slice none 0 0, .int .i64 0] 24)) (by simp [gives, go_sem]) ?_
          rintro _ _ ⟨rfl, rfl⟩
          exact ⟨⟨_, rfl, hb.size, alloc_at W _⟩, (Below.refl _ _).alloc (Nat.le_refl _) _⟩
      case hlast =>
        intro vs W hb hT
        obtain ⟨a, c, h1, h2⟩ := hT 6 (by decide)
        obtain ⟨g, h4, h5, h6⟩ := hT 7 (by decide)
        refine last_plain (by kernel_rfl) rfl fun F ev hF hf => ?_
        have e1 := (hf.of 6 _ 26 rfl rfl rfl (of_decide_eq_true rfl)).trans h1
        have e2 := (hf.of 7 _ 5 rfl rfl rfl (of_decide_eq_true rfl)).trans h4
        have x0 : Box W g [.slice none 0 0, .int .i64 0] := ⟨_, h6⟩
        have q0 := x0.cell 0 rfl
        have q1 := x0.cell 1 rfl
        have f0 := x0.frozen 0
        have f1 := x0.frozen 1
        refine gives_mono (R := fun v w' => v = undef ∧ w' = (W.setCell ⟨g, 0, none⟩ (.slice (some ⟨a, 0, none⟩) nds.length c)).setCell ⟨g, 1, none⟩ (.int .i64 out)) (by simp [gives, go_sem, e1, e2, q0, q1, f0, f1]) ?_
        rintro _ _ ⟨rfl, rfl⟩
        subst hF
        simp [fr, Act.put, h1, h4]
        generalize vs 0 = v0 at *
        generalize vs 1 = v1 at *
        generalize vs 2 = v2 at *
        generalize vs 3 = v3 at *
        generalize vs 4 = v4 at *
        generalize vs 5 = v5 at *
        clear hT hf h1 h4 e1 e2
        have W3X : Box ((W.setCell ⟨g, 0, none⟩ (.slice (some ⟨a, 0, none⟩) nds.length c)).setCell ⟨g, 1, none⟩ (.int .i64 out)) g [.slice (some ⟨a, 0, none⟩) nds.length c, .int .i64 out] := (x0.self 0 _).self 1 _
        have hag := own_off h2 (g := g) (cs := [.slice none 0 0, .int .i64 0]) h6 (by decide)
        have b3 : Below w2.heap.size w2 ((W.setCell ⟨g, 0, none⟩ (.slice (some ⟨a, 0, none⟩) nds.length c)).setCell ⟨g, 1, none⟩ (.int .i64 out)) := (hb.setCell (p := ⟨g, 0, none⟩) h5 _).setCell (p := ⟨g, 1, none⟩) h5 _
        refine hK _ _ ?_
        have hga : w2.heap.size ≤ a := (World.ownsRow.lt h2 a rfl).1
        have hla : a < W.heap.size := (World.ownsRow.lt h2 a rfl).2
        have hcap : nds.length ≤ c ∧ c ≤ maxLen := by
          rcases h2.2 with ⟨h, _⟩ | ⟨g', cap, cur, h1, _, _, h3, h4, _⟩
          · cases h
          · cases h1; exact ⟨h3, h4⟩
        have hGc : GcAt w.heap.size ((W.setCell ⟨g, 0, none⟩ (.slice (some ⟨a, 0, none⟩) nds.length c)).setCell ⟨g, 1, none⟩ (.int .i64 out)) a nds := by
          refine HNW.out.2.2.2.2 _ w2.heap.size a c ?_ (BW.out.trans (b3.mono BW.out.size))
          refine ⟨h2.1, ?_⟩
          rcases h2.2 with ⟨h, _⟩ | ⟨g', cap, cur, h1, h3, h4, rest⟩
          · cases h
          · refine .inr ⟨g', cap, cur, h1, h3, ?_, rest⟩
            cases h1
            rw [Below.heap_setCell _ _ _ _ hag, Below.heap_setCell _ _ _ _ hag]
            exact h4
        have hfrz : ∀ j, ((W.setCell ⟨g, 0, none⟩ (.slice (some ⟨a, 0, none⟩) nds.length c)).setCell ⟨g, 1, none⟩ (.int .i64 out)).frozen? ⟨a, j, none⟩ = false := fun j => by
          have h := World.ownsRow.frozenAt h2 j
          have e : ((W.setCell ⟨g, 0, none⟩ (.slice (some ⟨a, 0, none⟩) nds.length c)).setCell ⟨g, 1, none⟩ (.int .i64 out)).heap[a]? = W.heap[a]? := by rw [Below.heap_setCell _ _ _ _ hag, Below.heap_setCell _ _ _ _ hag]
          rw [← h]
          exact World.frozen?_of_block (a := ⟨a, j, none⟩) e
        have hszW : W.heap.size = ((W.setCell ⟨g, 0, none⟩ (.slice (some ⟨a, 0, none⟩) nds.length c)).setCell ⟨g, 1, none⟩ (.int .i64 out)).heap.size := by rw [size_set, size_set]
        rw [hszW] at hla
        clear hK x0 q0 q1 f0 f1 h2 h6 hb c0 c1 hszW
        generalize ((W.setCell ⟨g, 0, none⟩ (.slice (some ⟨a, 0, none⟩) nds.length c)).setCell ⟨g, 1, none⟩ (.int .i64 out)) = W3 at *
        clear W
        obtain ⟨k, hk⟩ : ∃ k, k = at_ % nds.length := ⟨_, rfl⟩
        have hkn : k < nds.length := by rw [hk]; exact Nat.mod_lt _ (by omega)
        have hrem : (at_ : Int).tmod (nds.length : Int) = (k : Int) := by rw [hk]; exact (Int.ofNat_tmod at_ nds.length).symm
        have B3 := BW.out.trans (b3.mono BW.out.size)
        have HB : Hid (Box W3 w.heap.size [.slice ga nds.length gc, .int .i64 out] ∧ Box W3 g [.slice (some ⟨a, 0, none⟩) nds.length c, .int .i64 out] ∧ Below w.heap.size w W3 ∧ GcAt w.heap.size W3 a nds ∧ w2.heap.size ≤ a ∧ a < W3.heap.size ∧ w2.heap.size ≤ g ∧ a ≠ g ∧ nds.length ≤ c ∧ c ≤ maxLen ∧ w.heap.size < w2.heap.size) := ⟨H2.out.1.call b3, W3X, B3, hGc, hga, hla, h5, hag, hcap.1, hcap.2, H2.out.1.lt⟩
        have g0 := HB.out.1.cell 0 rfl
        have g1 := HB.out.1.cell 1 rfl
        have x0 := W3X.cell 0 rfl
        have x1 := W3X.cell 1 rfl
        obtain ⟨s, t, hlies, _, _, _⟩ := hGc k _ (List.getElem?_eq_getElem hkn)
        have y1 : W3.cell? ⟨a, k * 3 + 1, none⟩ = some s := hlies 1 s rfl
        have z1 : W3.frozen? ⟨a, k * 3 + 1, none⟩ = false := hfrz _
        clear hlies hGc hga hla h5 hag hcap b3 B3 W3X hk H2 hfrz
        go_wp2_with fail
        go_region
        clear g0 g1 x0 x1 y1 z1 hrem
        obtain ⟨W4, hW4⟩ : ∃ W, W = (W3.setCell ⟨a, k * 3 + 1, none⟩ (.slice none 0 0)).drew := ⟨_, rfl⟩
        have H4 : Hid (Box W4 w.heap.size [.slice ga nds.length gc, .int .i64 out] ∧ Box W4 g [.slice (some ⟨a, 0, none⟩) nds.length c, .int .i64 out] ∧ Below w.heap.size w W4 ∧ Gr W4.heap.size W4 (.slice (some ⟨a, 0, none⟩) nds.length c) (nds.set k { nds.getD k Nd.none with ins := [] })) := by
          obtain ⟨h1, h2, h3, h4, h5, h6, h7, h8, h9, h10, h11⟩ := HB.out
          have hwa : w.heap.size ≤ a := by omega
          rw [hW4]
          refine ⟨h1.set (by simp; omega) _, h2.set (by simp; omega) _, (h3.setCell (by simp; omega) _).drew, ?_⟩
          have hs : (W3.setCell ⟨a, k * 3 + 1, none⟩ (.slice none 0 0)).drew.heap.size = W3.heap.size := size_set _ _ _
          rw [hs]
          have := (h4.strike hwa k).gr (C := W3.heap.size) (cap := c) (by have := h3.size; omega) h6 (by rw [List.length_set]; exact h9) h10
          rw [List.length_set] at this
          exact this
        rw [← hW4]
        clear hW4 HB HNW
        have g0 := H4.out.1.cell 0 rfl
        have g1 := H4.out.1.cell 1 rfl
        have hlen2 : (nds.set k { nds.getD k Nd.none with ins := [] }).length = nds.length := by rw [List.length_set]
        have HO : Hid ((ord (insOf nds)).length ≤ (ord (insOf (nds.set k { nds.getD k Nd.none with ins := [] }))).length) := ord_less_len (by rw [insOf_len, insOf_len, List.length_set]) (fun i hi => strike_inp nds k i (by rw [insOf_len] at hi; exact hi))
        obtain ⟨r, hr⟩ : ∃ r, r = decide ((ord (insOf nds)).length < nds.length) := ⟨_, rfl⟩
        have HR : Hid (r = decide ((ord (insOf nds)).length < nds.length)) := hr
        have hc1 : Hid (∀ W, Below w.heap.size w W → Calls Try.prog 13 #[.agg #[.slice ga nds.length gc, .int .i64 out]] W (PPost W (.bool r))) := fun W hb => by
          rw [hr]
          exact round_c w.heap.size _ nds out W (by omega) HF.out.2 (HG.out.below hb (Nat.le_refl _)) hb.size
        clear hr
        go_wp2_with fail
        refine (hc1.out W4 H4.out.2.2.1).mono ?_; rintro e W5 ⟨rfl, hb5⟩
        have H5 : Hid (Box W5 g [.slice (some ⟨a, 0, none⟩) nds.length c, .int .i64 out] ∧ Below w.heap.size w W5 ∧ Gr W4.heap.size W5 (.slice (some ⟨a, 0, none⟩) nds.length c) (nds.set k { nds.getD k Nd.none with ins := [] }) ∧ W4.heap.size ≤ W5.heap.size) := ⟨H4.out.2.1.call hb5, H4.out.2.2.1.trans (hb5.mono H4.out.2.2.1.size), H4.out.2.2.2.below hb5 (Nat.le_refl _), hb5.size⟩
        clear g0 g1 hb5 H4
        have g0 := H5.out.1.cell 0 rfl
        have g1 := H5.out.1.cell 1 rfl
        cases r with
        | true =>
          go_wp2_with fail
          go_ret
          exact ⟨rfl, H5.out.2.1⟩
        | false =>
          have hc2 : Hid (Calls Try.prog 13 #[.agg #[.slice (some ⟨a, 0, none⟩) nds.length c, .int .i64 out]] W5 (PPost W5 (.bool false))) := by
            have h := round_c W4.heap.size _ (nds.set k { nds.getD k Nd.none with ins := [] }) out W5 (by rw [hlen2]; omega) (strike_len nds k HF.out.2) H5.out.2.2.1 H5.out.2.2.2
            have e : decide ((ord (insOf (nds.set k { nds.getD k Nd.none with ins := [] }))).length < (nds.set k { nds.getD k Nd.none with ins := [] }).length) = false := by
              refine decide_eq_false ?_
              have h1 := of_decide_eq_false HR.out.symm
              have h3 := Nat.le_trans (Nat.le_of_not_lt h1) HO.out
              intro h
              exact absurd (Nat.lt_of_lt_of_le h (Nat.le_of_eq hlen2)) (Nat.not_lt.2 h3)
            rw [e] at h
            exact h
          clear hlen2
          go_wp2_with fail
          refine hc2.out.mono ?_; rintro e W6 ⟨rfl, hb6⟩
          have HE : Hid (Below w.heap.size w W6) := H5.out.2.1.trans (hb6.mono H5.out.2.1.size)
          clear g0 g1 hb6
          go_wp2_with fail
          go_ret
          exact ⟨rfl, HE.out⟩
end Go.Proofs.Ythjfbcmbjfkodaa
